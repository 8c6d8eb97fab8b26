/-
  The contracts of the checker's three questions on an instruction: its A, its B, its call.
-/
import Derived.WalkKit
import Derived.WalkSmall
import Derived.RowKit
import Derived.Deep.Heap
import Derived.ScopeJumps
import Derived.WalkMore
import Derived.Test.YtgjjhadbjmcnpaaGreatDoorRows
import Derived.ProofKit
import Derived.Deep.Slices
import Derived.WalkSpells
import Derived.WalkLawsBesides
import Derived.RegionTactic
import Derived.BigQuiet
import Derived.Deep.QuietTactic
import Derived.Deep.RegionHeld
set_option maxRecDepth 100000
set_option maxHeartbeats 16000000
namespace Go.Proofs.YtgjjhadbjmcnpaaGreatDoor
open Go.RowKit
abbrev Z (n:Int):Value:=.int .i64 n
abbrev J (b o:Nat):Addr:=⟨b,o,none⟩
theorem nZ {α:Sort _} (a:α):∃b,b=a:=⟨a,rfl⟩
theorem zB:type_of% @List.getElem?_cons_zero:=@List.getElem?_cons_zero
theorem zD:type_of% @List.getElem?_cons_succ:=@List.getElem?_cons_succ
theorem zE:type_of% @List.getElem?_toArray:=@List.getElem?_toArray
theorem zI:type_of% @Below.refl:=@Below.refl
theorem zJ:type_of% @Go.Deep.blk_setCell_other:=@Go.Deep.blk_setCell_other
theorem zK:type_of% @Nat.le_refl:=@Nat.le_refl
theorem zN:type_of% @World.cell?_of_block:=@World.cell?_of_block
theorem zP:type_of% @List.getElem_mem:=@List.getElem_mem
theorem zQ:type_of% @if_neg:=@if_neg
theorem zZ:type_of% @if_pos:=@if_pos
theorem zh:type_of% @And.intro:=@And.intro
theorem zj:type_of% @List.getElem?_eq_getElem:=@List.getElem?_eq_getElem
theorem zk:type_of% @bodyPost_ret:=@bodyPost_ret
theorem yA:type_of% @List.take_succ_eq_append_getElem:=@List.take_succ_eq_append_getElem
theorem yB:type_of% @World.frozen?_of_block:=@World.frozen?_of_block
theorem yC:type_of% @List.mem_cons:=@List.mem_cons
theorem yD:type_of% @List.mem_map:=@List.mem_map
theorem yE:type_of% @List.mem_append_left:=@List.mem_append_left
theorem yF:type_of% @List.append_assoc:=@List.append_assoc
theorem yG:type_of% @List.not_mem_nil:=@List.not_mem_nil
theorem yH:type_of% @List.mem_append:=@List.mem_append
theorem yI:type_of% @List.mem_singleton:=@List.mem_singleton
theorem yJ:type_of% @Nat.add_zero:=@Nat.add_zero
theorem yK:type_of% @Go.Deep.nblk_setCell:=@Go.Deep.nblk_setCell
theorem yL:type_of% @Array.getElem?_eq_some_iff:=@Array.getElem?_eq_some_iff
theorem yM:type_of% @List.mem_append_right:=@List.mem_append_right
theorem yN:type_of% @List.length_append:=@List.length_append
theorem yO:type_of% @List.getD_eq_getElem?_getD:=@List.getD_eq_getElem?_getD
theorem yP:type_of% @List.take_length:=@List.take_length
theorem yQ:type_of% @List.set_cons_zero:=@List.set_cons_zero
theorem yR:type_of% @List.mem_range:=@List.mem_range
theorem yS:type_of% @List.map_cons:=@List.map_cons
theorem yT:type_of% @List.length_map:=@List.length_map
theorem yU:type_of% @List.mem_flatMap:=@List.mem_flatMap
theorem yV:type_of% @List.ext_getElem:=@List.ext_getElem
theorem yW:type_of% @List.map_append:=@List.map_append
theorem yX:type_of% @List.getElem_of_mem:=@List.getElem_of_mem
theorem yY:type_of% @decide_eq_true_eq:=@decide_eq_true_eq
theorem yZ:type_of% @List.set_cons_succ:=@List.set_cons_succ
theorem ya:type_of% @List.map_congr_left:=@List.map_congr_left
theorem yc:type_of% @List.mem_cons_of_mem:=@List.mem_cons_of_mem
theorem yd:type_of% @List.length_eq_zero_iff:=@List.length_eq_zero_iff
theorem ye:type_of% @Nat.mul_le_mul_right:=@Nat.mul_le_mul_right
theorem yg:type_of% @List.mem_cons_self:=@List.mem_cons_self
theorem yh:type_of% @List.foldl_append:=@List.foldl_append
theorem yi:type_of% @List.length_cons:=@List.length_cons
theorem yk:type_of% @List.getElem?_eq_none:=@List.getElem?_eq_none
theorem yl:type_of% @or_false:=@or_false
theorem yn:type_of% @List.flatMap_append:=@List.flatMap_append
theorem yo:type_of% @Below.trans:=@Below.trans
theorem yp:type_of% @List.mem_iff_getElem:=@List.mem_iff_getElem
theorem yq:type_of% @Nat.lt_or_ge:=@Nat.lt_or_ge
theorem yr:type_of% @List.length_take:=@List.length_take
theorem yt:type_of% @List.range_succ:=@List.range_succ
theorem yu:type_of% @List.mem_filter:=@List.mem_filter
theorem yv:type_of% @Nat.le_trans:=@Nat.le_trans
theorem yw:type_of% @List.map_nil:=@List.map_nil
theorem yx:type_of% @Nat.zero_add:=@Nat.zero_add
theorem yy:type_of% @List.map_map:=@List.map_map
theorem y8:type_of% @List.getElem_set:=@List.getElem_set
theorem xA:type_of% @decide_eq_false_iff_not:=@decide_eq_false_iff_not
theorem xB:type_of% @Nat.lt_of_lt_of_le:=@Nat.lt_of_lt_of_le
theorem xC:type_of% @Int.toNat_natCast:=@Int.toNat_natCast
theorem xE:type_of% @List.getElem_map:=@List.getElem_map
theorem xF:type_of% @Classical.byContradiction:=@Classical.byContradiction
theorem xG:type_of% @Below.heap_alloc:=@Below.heap_alloc
theorem xH:type_of% @Or.inl:=@Or.inl
theorem xI:type_of% @IntKind.wrap_i64:=@IntKind.wrap_i64
theorem xJ:type_of% @Array.getElem?_toList:=@Array.getElem?_toList
theorem bO {p:Prop} (h:p:=by omega):p:=h
theorem bK {p:Prop} (h:p:=by kernel_rfl):p:=h
theorem bV {p:Prop} (h:p:=by simp):p:=h
theorem bW {p:Prop} (h:p:=by simp;omega):p:=h
/-! short names for what is said often of new memory -/
theorem bR (B:Nat) (w:World):Below B w w:=.refl B w
theorem bH {B:Nat} {a b:World} (h:Hid (Below B a b)):Below B a b:=h
theorem bD {B:Nat} {a w:World} (h:Below B a w):Below B a w.drew:=h.drew
theorem bN {B:Nat} {a w:World} (h:Below B a w) (n:Nat):Below B a (w.drewN n):=below_drewN h n
theorem bS {B:Nat} {a w:World} (h:Below B a w) {p:Addr} (hp:B<=p.block) (u:Value):Below B a (w.setCell p u):=h.setCell hp u
theorem bA {B:Nat} {a w:World} (h:Below B a w) (hB:B<=w.heap.size) (o:Obj):Below B a (w.alloc o):=h.alloc hB o
theorem bT {B n:Nat} {a b c:World} (k:Below n b c) (h:Below B a b) (hB:B<=n):Below B a c:=h.trans (k.mono hB)

theorem bZ {p:Prop} (h:p:=by repeat (first|(with_reducible first|exact bR _ _|exact bH ‹_›|refine bD ?_|refine bN ?_ _|refine bS ?_ ?_ _|refine bA ?_ ?_ _|refine bT hb3 ?_ ?_|refine bT hb5 ?_ ?_|refine bT hb4 ?_ ?_)|omega|(simp;omega)|simp)):p:=h

theorem Z5 {W w1:World} (hb:Below W.heap.size W w1):(∀b o,b<W.heap.size->w1.cell? (J b o)=W.cell? (J b o))/\(∀b o,b<W.heap.size->w1.frozen? (J b o)=W.frozen? (J b o))/\W.heap.size<=w1.heap.size:=
 ⟨fun b o h=>hb.cell (p:=(J b o)) h,fun b o h=>hb.frozen (p:=(J b o)) h,hb.size⟩

theorem q9 {w:World} {b o:Nat} {v:Value} (h:w.cell? (J b o)=some v):b<w.heap.size:=by
 unfold World.cell? at h;rcases yq b w.heap.size with g|g
 ·exact g
 rw[Array.getElem?_eq_none_iff.2 g]at h;cases h

theorem qB (w:World) (o:Obj):(w.alloc o).heap[w.heap.size]?=some o:=by
 show(w.heap.push o)[w.heap.size]?=_;simp
theorem qr {w:World} {o:Obj} {k:Nat} (h:w.heap.size=k):(w.alloc o).heap[k]?=some o:=by
 subst h;exact qB w o
theorem qh {w:World} {o:Obj} {k:Nat} {x:Obj} (h:w.heap[k]?=some x):(w.alloc o).heap[k]?=some x:=by
 have hk:k<w.heap.size:=by
  rcases yq k w.heap.size with g|g
  ·exact g
  rw[Array.getElem?_eq_none_iff.2 g]at h;cases h
 rw[xG w o k hk];exact h
theorem qg {B:Nat} {w w':World} {k:Nat} {x:Obj} (hb:Below B w w') (hk:k<B) (h:w.heap[k]?=some x):w'.heap[k]?=some x:=(hb.block k hk).trans h
theorem blk {w:World} {k:Nat} {A:Array Value} {T:TypeId} (h:w.heap[k]?=some (.cells A T (0,0))):(∀j,w.cell? (J k j)=A[j]?)/\(∀j,w.frozen? (J k j)=false):=by
 constructor
 ·intro j;simp[World.cell?,h]
 intro j;simp[World.frozen?,h]

def I64 (n:Int):Prop:=-9223372036854775808<=n/\n<=9223372036854775807

end Go.Proofs.YtgjjhadbjmcnpaaGreatDoor
namespace Go.Proofs.YtgjjhadbjmcnpaaGreatDoor

theorem XB {p:Nat->Prop} (h:∃n,p n):∃n,p n/\∀m,p m->n<=m:=by
 obtain⟨n,hn⟩:=h
 induction n using Nat.strongRecOn with
 | _ n ih=>
  by_cases hx:∃m,m<n/\p m
  ·obtain⟨m,hm,hp⟩:=hx;exact ih m hm hp
  exact⟨n,hn,fun m hm=>Nat.le_of_not_lt fun hl=>hx ⟨m,hl,hm⟩⟩
open Classical in
noncomputable def Xc (p:Nat->Prop):Nat:=if h:∃n,p n then Classical.choose (XB h)else 0
theorem Xd {p:Nat->Prop} (h:∃n,p n):p (Xc p):=by
 unfold Xc;rw[dif_pos h];exact(Classical.choose_spec (XB h)).1
theorem Jo {p:Nat->Prop} {m:Nat} (h:p m):Xc p<=m:=by
 unfold Xc;rw[dif_pos ⟨m,h⟩];exact(Classical.choose_spec (XB ⟨m,h⟩)).2 m h

section
variable {P : Program} {a : Act} {w : World} {Q : Exit → Act → World → Prop}
theorem XC {c:Code} (I:Nat->Act->World->Prop) (n:Nat) (h0:I n a w) (round:∀n a w,I n a w->c.wp P (Exit.then (fun a' w'=>∃m,m<n/\I m a' w') Q) a w):(Code.loop c).wp P Q a w:=by
 refine wp_loop (fun a w=>∃n,I n a w) (fun a w=>Xc fun n=>I n a w) ⟨n,h0⟩ fun a w h=>?_;refine wp_mono (round _ a w (Xd h)) fun e a' w' hq=>?_;cases e with
 | normal=>
  obtain⟨m,hm,hI⟩:=hq;exact⟨⟨m,hI⟩,Nat.lt_of_le_of_lt (Jo (p:=fun n=>I n a' w') hI) hm⟩
 | _=>exact hq
theorem X4 {c rest:Code} (l:Nat) (Jq:Nat->Act->World->Prop) (hf:findLabel c l=some (.seq .skip rest))
  (pass:∀n a w,Jq n a w->rest.wp P (Exit.jump l (fun a' w'=>∃m,m<n/\Jq m a' w') Q) a w)
  (first:(∀n a w,Jq n a w->rest.wp P (Exit.jump l (fun a w=>∃n,Jq n a w) Q) a w)->c.wp P (Exit.jump l (fun a w=>∃n,Jq n a w) Q) a w):(Code.scope c).wp P Q a w:=by
 have jm:∀{J1 J2:Act->World->Prop},(∀a w,J1 a w->J2 a w)->∀e a w,Exit.jump l J1 Q e a w->Exit.jump l J2 Q e a w:=fun h e a w hq=>by
  cases e with
  | goto l'=>exact⟨hq.1,h _ _ hq.2⟩
  | _=>exact hq
 refine wp_scope_jumps l (fun a w=>∃n,Jq n a w) (fun a w=>Xc fun n=>Jq n a w) hf (first fun n a w h=>wp_mono (pass n a w h) (jm fun _ _ ⟨m,_,h⟩=>⟨m,h⟩)) fun a w h=>?_;exact wp_seq (wp_skip (wp_mono (pass _ a w (Xd h)) (jm fun a' w' ⟨m,hm,hJ⟩=>⟨⟨m,hJ⟩,Nat.lt_of_le_of_lt (Jo (p:=fun n=>Jq n a' w') hJ) hm⟩)))
end
end Go.Proofs.YtgjjhadbjmcnpaaGreatDoor
namespace Go.Proofs.YtgjjhadbjmcnpaaGreatDoor
open Go.RowKit Go.ChangeShapes Go.WideShapes Go.ChangeAt

def SliceAt {α:Type} (w:World) (size:Nat) (R:List Value->α->Prop) (p:Option Addr) (xs:List α):Prop:=
 xs=[]\/∃b o,p=some (J b o)/\∀i (hi:i<xs.length),∃cs,cs.length=size/\(∀j,j<size->w.cell? (J b (o+i*size+j))=cs[j]?)/\R cs xs[i]

theorem Jp {w:World} {base:Nat} {a:Addr} {n:Nat} {cs:List Value} (h:w.cells? base a n=some cs):cs.length=n/\∀j,j<n->w.cell? (a.add j)=cs[j]?:=by
 unfold World.cells? at h
 split at h
 ·have hl:=mapM_some_length h;refine⟨by simpa using hl,fun j hj=>?_⟩;have:=mapM_some_get h j j (by simp[hj]);exact this
 cases h

theorem kZ {α:Type} {Q:Nat->α->Prop}:∀(n:Nat),(∀i,i<n->∃x,Q i x)->∃xs:List α,xs.length=n/\∀i (hi:i<xs.length),Q i xs[i]
 | 0,_=>⟨[],rfl,fun i hi=>absurd hi bV⟩
 | n+1,h=>by
  obtain⟨xs,hl,hx⟩:=kZ n (fun i hi=>h i bO);obtain⟨x,hq⟩:=h n bO;refine⟨xs++[x],by simp[hl],fun i hi=>?_⟩;rw[yN,List.length_singleton]at hi;rcases yq i xs.length with g|g
  ·rw[List.getElem_append_left g];exact hx i g
  obtain rfl:i=xs.length:=by omega
  rw[List.getElem_append_right (zK _)];simp only[Nat.sub_self,List.getElem_cons_zero];rw[hl];exact hq

theorem Q0 {H:Type} {P:Program} {e:TypeId} {d:DataW H} {k:Nat} (hk:k∈d.weights P e):∀{l:List (DataW H)},d∈l->k∈DataW.weightsAll P e l
 | x::r,h=>by
  unfold DataW.weightsAll;rcases yC.1 h with rfl|h
  ·exact yE _ hk
  exact yM _ (Q0 hk h)

section
variable {H : Type} {enc : TypeId × Value → H} {P : Program} {w : World}

theorem jI {α:Type} {R:List Value->α->Prop} {t e:TypeId} {size bytes:Nat} (ht:P.underlying t=some (.slice e)) (hsz:P.cellsOf e=size) (hby:P.bytesOf e=bytes) (hpos:0<size)
  (hR:∀fuel cs d ps,DataW.trod enc P w 0 (fun _=>true) true fuel e cs=some (d,ps)->(∀k∈d.weights P e,k<=reachBytes)->∃x,R cs x)
  {fuel:Nat} {cs:List Value} {d:DataW H} {ps:List MemPlace} (h:DataW.trod enc P w 0 (fun _=>true) true fuel t cs=some (d,ps)) (hw:∀k∈d.weights P t,k<=reachBytes) :
  ∃(p:Option Addr) (c:Nat) (xs:List α),cs=[.slice p xs.length c]/\(p=none->xs.length=0/\c=0)/\xs.length<=c/\c*bytes<=reachBytes/\SliceAt w size R p xs:=by
 rcases Go.Deep.open_slice ht h with⟨rfl,hx⟩|⟨a,len,cap,m,n,D,Pl,rfl,_,hl,hm,hmm,hx,hel⟩
 ·exact⟨none,0,[],rfl,fun _=>⟨rfl,rfl⟩,zK _,by simp,.inl rfl⟩
 simp only[if_true]at hmm;subst hmm;simp only[Prod.mk.injEq]at hx;obtain⟨rfl,rfl⟩:=hx
 have hwl:m*bytes<=reachBytes:=by
  refine hw _ ?_;unfold DataW.weights;rw[ht];simp only[yT,List.length_range,hby];rw[show len+(m - len)=m by omega];exact yg
 have hr7:∀i,i<len->∃x,∃cs',w.cells? 0 (a.add (i*size)) size=some cs'/\R cs' x:=by
  intro i hi;obtain⟨cs',hc,htr⟩:=hel i bO;rw[hsz]at hc
  obtain⟨x,hx⟩:=hR _ _ _ _ htr (fun k hk=>by
   refine hw _ ?_;unfold DataW.weights;rw[ht];refine yc _ (yE _ ?_)
   exact Q0 hk (yD.2 ⟨i,yR.2 hi,rfl⟩))
  exact⟨x,cs',hc,hx⟩
 obtain⟨xs,rfl,hxs⟩:=kZ len hr7;refine⟨some a,m,xs,rfl,fun h=>(by cases h),hl,hwl,?_⟩;rcases Nat.eq_zero_or_pos xs.length with h0|h0
 ·exact .inl (yd.1 h0)
 right;obtain⟨b,o,sp⟩:=a
 have hsp:sp=none:=by
  obtain⟨cs',hc,_⟩:=hxs 0 h0;obtain⟨hcl,hcc⟩:=Jp hc;have h1:=hcc 0 hpos;rw[zj bO]at h1;cases sp with
  | none=>rfl
  | some s=>
   exfalso;unfold World.cell? at h1
   split at h1
   ·simp[Addr.add]at h1
   cases h1
 subst hsp;refine⟨b,o,rfl,fun i hi=>?_⟩;obtain⟨cs',hc,hr⟩:=hxs i hi;obtain⟨hcl,hcc⟩:=Jp hc;refine⟨cs',hcl,fun j hj=>?_,hr⟩;have:=hcc j hj;rw[←this];congr 1;simp only[Addr.add]
 split<;>split<;>simp_all<;>omega

theorem Qj {W W':World} (hl:laidOutB P=true) (hb:Below W.heap.size W W'):∀{ts:List TypeId} {vs:List Value} {ds:List (DataW H)} {ps:List MemPlace},(∀t∈ts,P.readableRec t=true/\t<P.types.size)->
  DataW.TrodAll enc P W 0 (fun _=>true) true ts vs ds ps->(∀x∈ps,x.block<W.heap.size)->DataW.TrodAll enc P W' 0 (fun b=>decide (b<W.heap.size)) true ts vs ds ps
 | [],[],[],_,_,h,_=>h
 | t::ts,v::vs,d::ds,ps,ht,h,hlt=>by
  obtain⟨p,q,h1,h2,rfl⟩:=h;obtain⟨r1,r2⟩:=ht t yg;exact⟨p,q,Below.trod hl r1 r2 h1 hb (fun x hx=>hlt x (yE _ hx)),Qj hl hb (fun t h=>ht t (yc _ h)) h2 (fun x hx=>hlt x (yM _ hx)),rfl⟩

theorem law_post {f:Func} {s:ChangeSpec} {W W':World} {args:Array Value} {ds gs:List (DataW H)} {before:List MemPlace} {T:TypeId} (hl:laidOutB P=true) (hres:f.resultTypes=#[T]) (hT:P.underlying T=some .bool)
  (hts:∀t∈f.params.toList,P.readableRec t=true/\t<P.types.size) (hvars:s.vars=[]) (hW:DataW.Whole enc P f.params.toList s.vars false W args.toList ds gs before)
  (hfn:s.fn H (ds++gs)={ results:=[.lit (.bool true)],args:=ds }) (hb:Below W.heap.size W W') :
  s.post enc P f false true false false W args (.bool true) W':=by
 have hlt:∀x∈before,x.block<W.heap.size:=fun x hx=>hW.lt x hx;have hW2:=hW;obtain⟨p,q,hA,hV,rfl,hfz,hnd⟩:=hW2;refine⟨ds,gs,_,[],p,[],hW,?_,?_,?_,hb.frame _,fun h=>by cases h⟩
 ·rw[hfn,hres];exact trodAll_mk1 (shut_bool hT true)
 ·rw[hfn];exact Qj hl hb hts hA (fun x hx=>hlt x (yE _ hx))
 rw[hfn,hvars];exact rfl
end

theorem I64.of_wf {n:Int} (h:(Lit.int .i64 n).wf=true):I64 n:=by
 simp only[Lit.wf,IntKind.min,IntKind.max,IntKind.signed,IntKind.bits,Bool.and_eq_true,yY,if_true]at h;unfold I64;omega

def kc (cs:List Value) (v:Bool×Int):Prop:=cs=[.bool v.1,Z v.2]/\I64 v.2
def jM (cs:List Value) (n:Int):Prop:=cs=[Z n]/\I64 n
def SlF {α:Type} (w:World) (size bytes:Nat) (R:List Value->α->Prop) (v:Value) (xs:List α):Prop:=
 ∃p c,v = .slice p xs.length c/\(p=none->xs.length=0/\c=0)/\xs.length<=c/\xs.length*bytes<=reachBytes/\SliceAt w size R p xs
theorem capQ {A D:Prop} {n c b r:Nat} (h:A/\n<=c/\c*b<=r/\D):A/\n<=c/\n*b<=r/\D:=⟨h.1,h.2.1,yv (ye _ h.2.1) h.2.2.1,h.2.2.2⟩

structure InsL where
 op:Int
 dst:Int
 ar:Bool
 an:Int
 br:Bool
 bn:Int
 fn:Int
 args:List (Bool×Int)
structure PhiL where
 dst:Int
 src:List (Bool×Int)
structure EndL where
 kind:Int
 onr:Bool
 onn:Int
 to:List Int
structure BlkL where
 phis:List PhiL
 list:List InsL
 fin:EndL
structure FunL where
 name:ByteArray
 params:Int
 regs:Int
 blocks:List BlkL
structure GloL where
 name:ByteArray
 size:Int
 init:List Int
structure UniL where
 globals:List GloL
 funcs:List FunL

def InsR (w:World) (cs:List Value) (i:InsL):Prop:=∃v,cs=[Z i.op,Z i.dst,.bool i.ar,Z i.an,.bool i.br,Z i.bn,Z i.fn,v]/\
 I64 i.op/\I64 i.dst/\I64 i.an/\I64 i.bn/\I64 i.fn/\SlF w 2 16 kc v i.args
def PhiR (w:World) (cs:List Value) (x:PhiL):Prop:=∃v,cs=[Z x.dst,v]/\I64 x.dst/\SlF w 2 16 kc v x.src
def EndR (w:World) (cs:List Value) (x:EndL):Prop:=∃v,cs=[Z x.kind,.bool x.onr,Z x.onn,v]/\I64 x.kind/\I64 x.onn/\SlF w 1 8 jM v x.to
def BlkR (w:World) (cs:List Value) (x:BlkL):Prop:=∃v1 v2 v3,cs=[v1,v2,Z x.fin.kind,.bool x.fin.onr,Z x.fin.onn,v3]/\I64 x.fin.kind/\I64 x.fin.onn/\
 SlF w 2 32 (PhiR w) v1 x.phis/\SlF w 8 80 (InsR w) v2 x.list/\SlF w 1 8 jM v3 x.fin.to
def FunR (w:World) (cs:List Value) (x:FunL):Prop:=∃v,cs=[.string x.name,Z x.params,Z x.regs,v]/\x.name.size<=reachBytes/\I64 x.params/\I64 x.regs/\SlF w 6 96 (BlkR w) v x.blocks
def GloR (w:World) (cs:List Value) (x:GloL):Prop:=∃v,cs=[.string x.name,Z x.size,v]/\x.name.size<=reachBytes/\I64 x.size/\SlF w 1 8 jM v x.init
def UniR (w:World) (cs:List Value) (x:UniL):Prop:=∃v1 v2,cs=[v1,v2]/\SlF w 3 48 (GloR w) v1 x.globals/\SlF w 4 56 (FunR w) v2 x.funcs

theorem kC:Tryz.prog.cellsOf 44=2:=by kernel_rfl
theorem cellsBool:Tryz.prog.cellsOf 4=1:=by kernel_rfl
theorem je:Tryz.prog.cellsOf 3=1:=by kernel_rfl
theorem Kd:Tryz.prog.cellsOf 9=1:=by kernel_rfl
theorem Jr:Tryz.prog.cellsOf 40=1:=by kernel_rfl
theorem Js:Tryz.prog.cellsOf 45=1:=by kernel_rfl
theorem Ke:Tryz.prog.cellsOf 51=8:=by kernel_rfl
theorem cellsInss:Tryz.prog.cellsOf 42=1:=by kernel_rfl
theorem Kf:Tryz.prog.cellsOf 84=2:=by kernel_rfl
theorem cellsPhis:Tryz.prog.cellsOf 41=1:=by kernel_rfl
theorem Kg:Tryz.prog.cellsOf 47=4:=by kernel_rfl
theorem Kh:Tryz.prog.cellsOf 49=6:=by kernel_rfl
theorem cellsBlks:Tryz.prog.cellsOf 36=1:=by kernel_rfl
theorem Ki:Tryz.prog.cellsOf 38=4:=by kernel_rfl
theorem cellsFuns:Tryz.prog.cellsOf 23=1:=by kernel_rfl
theorem Kj:Tryz.prog.cellsOf 61=3:=by kernel_rfl
theorem cellsGlos:Tryz.prog.cellsOf 22=1:=by kernel_rfl
theorem cellsUni:Tryz.prog.cellsOf 25=2:=by kernel_rfl
theorem Kk:Tryz.prog.bytesOf 44=16:=by kernel_rfl
theorem Kl:Tryz.prog.bytesOf 3=8:=by kernel_rfl
theorem bytesIns:Tryz.prog.bytesOf 51=80:=by kernel_rfl
theorem bytesPhi:Tryz.prog.bytesOf 84=32:=by kernel_rfl
theorem bytesBlk:Tryz.prog.bytesOf 49=96:=by kernel_rfl
theorem bytesFun:Tryz.prog.bytesOf 38=56:=by kernel_rfl
theorem bytesGlo:Tryz.prog.bytesOf 61=48:=by kernel_rfl
theorem Ye {α:Type} {l:List α} (hl:l.length=2):∃a b,l=[a,b]:=by
 match l,hl with
 | [a,b],_=>exact⟨a,b,rfl⟩
theorem len_3 {α:Type} {l:List α} (hl:l.length=3):∃a b c,l=[a,b,c]:=by
 match l,hl with
 | [a,b,c],_=>exact⟨a,b,c,rfl⟩
theorem Yf {α:Type} {l:List α} (hl:l.length=4):∃a b c d,l=[a,b,c,d]:=by
 match l,hl with
 | [a,b,c,d],_=>exact⟨a,b,c,d,rfl⟩
theorem len_6 {α:Type} {l:List α} (hl:l.length=6):∃a b c d e f,l=[a,b,c,d,e,f]:=by
 match l,hl with
 | [a,b,c,d,e,f],_=>exact⟨a,b,c,d,e,f,rfl⟩
theorem len_8 {α:Type} {l:List α} (hl:l.length=8):∃a b c d e f g h,l=[a,b,c,d,e,f,g,h]:=by
 match l,hl with
 | [a,b,c,d,e,f,g,h],_=>exact⟨a,b,c,d,e,f,g,h,rfl⟩

section
variable {H : Type} {enc : TypeId × Value → H} {w : World} {fuel : Nat} {cs : List Value} {d : DataW H} {ps : List MemPlace}
theorem rd_int (h:DataW.trod enc Tryz.prog w 0 (fun _=>true) true fuel 3 cs=some (d,ps)):∃n,jM cs n:=by
 obtain⟨k,e,_,wk⟩:=DataW.trod_int Tryz.underlying3 h;exact⟨k,e,I64.of_wf wk⟩
theorem Jt (h:DataW.trod enc Tryz.prog w 0 (fun _=>true) true fuel 44 cs=some (d,ps)):∃x,kc cs x:=by
 obtain⟨xs,n,_,hx,hlen,hxl,hf⟩:=DataW.trod_struct Tryz.underlying44 h;simp only[Prod.mk.injEq]at hx;obtain⟨rfl,_⟩:=hx;rw[kC]at hlen;obtain⟨c0,c1,rfl⟩:=Ye hlen;obtain⟨x0,x1,rfl⟩:=Ye (show xs.length=2 by simpa using hxl);have h0:DataW.trod enc Tryz.prog w 0 (fun _=>true) true n 4 (([c0,c1].drop 0).take (Tryz.prog.cellsOf 4))=some x0:=hf 0 _ rfl;rw[cellsBool]at h0;have h1:DataW.trod enc Tryz.prog w 0 (fun _=>true) true n 3 (([c0,c1].drop 1).take (Tryz.prog.cellsOf 3))=some x1:=hf 1 _ rfl;rw[je]at h1;obtain⟨k0,e0,_⟩:=DataW.trod_bool Tryz.underlying4 h0;obtain⟨k1,e1,_,w1⟩:=DataW.trod_int Tryz.underlying3 h1;simp at e0 e1;subst e0 e1;exact⟨(k0,k1),rfl,I64.of_wf w1⟩
theorem rd_ins (h:DataW.trod enc Tryz.prog w 0 (fun _=>true) true fuel 51 cs=some (d,ps)) (hw:∀k∈d.weights Tryz.prog 51,k<=reachBytes):∃x,InsR w cs x:=by
 obtain⟨xs,n,_,hx,hlen,hxl,hf⟩:=DataW.trod_struct Tryz.underlying51 h;simp only[Prod.mk.injEq]at hx;obtain⟨rfl,_⟩:=hx;rw[Ke]at hlen;obtain⟨c0,c1,c2,c3,c4,c5,c6,c7,rfl⟩:=len_8 hlen;obtain⟨x0,x1,x2,x3,x4,x5,rfl⟩:=len_6 (show xs.length=6 by simpa using hxl);have h0:DataW.trod enc Tryz.prog w 0 (fun _=>true) true n 3 (([c0,c1,c2,c3,c4,c5,c6,c7].drop 0).take (Tryz.prog.cellsOf 3))=some x0:=hf 0 _ rfl;rw[je]at h0;have h1:DataW.trod enc Tryz.prog w 0 (fun _=>true) true n 3 (([c0,c1,c2,c3,c4,c5,c6,c7].drop 1).take (Tryz.prog.cellsOf 3))=some x1:=hf 1 _ rfl;rw[je]at h1;have h2:DataW.trod enc Tryz.prog w 0 (fun _=>true) true n 44 (([c0,c1,c2,c3,c4,c5,c6,c7].drop 2).take (Tryz.prog.cellsOf 44))=some x2:=hf 2 _ rfl;rw[kC]at h2;have h3:DataW.trod enc Tryz.prog w 0 (fun _=>true) true n 44 (([c0,c1,c2,c3,c4,c5,c6,c7].drop 4).take (Tryz.prog.cellsOf 44))=some x3:=hf 3 _ rfl;rw[kC]at h3;have h4:DataW.trod enc Tryz.prog w 0 (fun _=>true) true n 3 (([c0,c1,c2,c3,c4,c5,c6,c7].drop 6).take (Tryz.prog.cellsOf 3))=some x4:=hf 4 _ rfl;rw[je]at h4;have h5:DataW.trod enc Tryz.prog w 0 (fun _=>true) true n 40 (([c0,c1,c2,c3,c4,c5,c6,c7].drop 7).take (Tryz.prog.cellsOf 40))=some x5:=hf 5 _ rfl;rw[Jr]at h5
 have hw5:∀k∈x5.1.weights Tryz.prog 40,k<=reachBytes:=by
  intro k hk;refine hw k ?_;unfold DataW.weights;rw[Tryz.underlying51];simp only[yS,yw,DataW.weightsEach];simp[hk]
 obtain⟨k0,e0,_,w0⟩:=DataW.trod_int Tryz.underlying3 h0;obtain⟨k1,e1,_,w1⟩:=DataW.trod_int Tryz.underlying3 h1;obtain⟨v2,e2,w2⟩:=Jt (d:=x2.1) (ps:=x2.2) h2;obtain⟨v3,e3,w3⟩:=Jt (d:=x3.1) (ps:=x3.2) h3;obtain⟨k4,e4,_,w4⟩:=DataW.trod_int Tryz.underlying3 h4;obtain⟨p5,g5,s5,e5,q5⟩:=jI (R:=kc) Tryz.underlying40 kC Kk bO (fun _ _ _ _ hh _=>Jt hh) (d:=x5.1) (ps:=x5.2) h5 hw5;simp at e0 e1 e2 e3 e4 e5;obtain⟨rfl,rfl⟩:=e2;obtain⟨rfl,rfl⟩:=e3;subst e0 e1 e4 e5;exact⟨⟨k0,k1,v2.1,v2.2,v3.1,v3.2,k4,s5⟩,_,rfl,I64.of_wf w0,I64.of_wf w1,w2,w3,I64.of_wf w4,⟨p5,g5,rfl,capQ q5⟩⟩
theorem rd_phi (h:DataW.trod enc Tryz.prog w 0 (fun _=>true) true fuel 84 cs=some (d,ps)) (hw:∀k∈d.weights Tryz.prog 84,k<=reachBytes):∃x,PhiR w cs x:=by
 obtain⟨xs,n,_,hx,hlen,hxl,hf⟩:=DataW.trod_struct Tryz.underlying84 h;simp only[Prod.mk.injEq]at hx;obtain⟨rfl,_⟩:=hx;rw[Kf]at hlen;obtain⟨c0,c1,rfl⟩:=Ye hlen;obtain⟨x0,x1,rfl⟩:=Ye (show xs.length=2 by simpa using hxl);have h0:DataW.trod enc Tryz.prog w 0 (fun _=>true) true n 3 (([c0,c1].drop 0).take (Tryz.prog.cellsOf 3))=some x0:=hf 0 _ rfl;rw[je]at h0;have h1:DataW.trod enc Tryz.prog w 0 (fun _=>true) true n 40 (([c0,c1].drop 1).take (Tryz.prog.cellsOf 40))=some x1:=hf 1 _ rfl;rw[Jr]at h1
 have hw1:∀k∈x1.1.weights Tryz.prog 40,k<=reachBytes:=by
  intro k hk;refine hw k ?_;unfold DataW.weights;rw[Tryz.underlying84];simp only[yS,yw,DataW.weightsEach];simp[hk]
 obtain⟨k0,e0,_,w0⟩:=DataW.trod_int Tryz.underlying3 h0;obtain⟨p1,g1,s1,e1,q1⟩:=jI (R:=kc) Tryz.underlying40 kC Kk bO (fun _ _ _ _ hh _=>Jt hh) (d:=x1.1) (ps:=x1.2) h1 hw1;simp at e0 e1;subst e0 e1;exact⟨⟨k0,s1⟩,_,rfl,I64.of_wf w0,⟨p1,g1,rfl,capQ q1⟩⟩
theorem rd_end (h:DataW.trod enc Tryz.prog w 0 (fun _=>true) true fuel 47 cs=some (d,ps)) (hw:∀k∈d.weights Tryz.prog 47,k<=reachBytes):∃x,EndR w cs x:=by
 obtain⟨xs,n,_,hx,hlen,hxl,hf⟩:=DataW.trod_struct Tryz.underlying47 h;simp only[Prod.mk.injEq]at hx;obtain⟨rfl,_⟩:=hx;rw[Kg]at hlen;obtain⟨c0,c1,c2,c3,rfl⟩:=Yf hlen;obtain⟨x0,x1,x2,rfl⟩:=len_3 (show xs.length=3 by simpa using hxl);have h0:DataW.trod enc Tryz.prog w 0 (fun _=>true) true n 3 (([c0,c1,c2,c3].drop 0).take (Tryz.prog.cellsOf 3))=some x0:=hf 0 _ rfl;rw[je]at h0;have h1:DataW.trod enc Tryz.prog w 0 (fun _=>true) true n 44 (([c0,c1,c2,c3].drop 1).take (Tryz.prog.cellsOf 44))=some x1:=hf 1 _ rfl;rw[kC]at h1;have h2:DataW.trod enc Tryz.prog w 0 (fun _=>true) true n 45 (([c0,c1,c2,c3].drop 3).take (Tryz.prog.cellsOf 45))=some x2:=hf 2 _ rfl;rw[Js]at h2
 have hw2:∀k∈x2.1.weights Tryz.prog 45,k<=reachBytes:=by
  intro k hk;refine hw k ?_;unfold DataW.weights;rw[Tryz.underlying47];simp only[yS,yw,DataW.weightsEach];simp[hk]
 obtain⟨k0,e0,_,w0⟩:=DataW.trod_int Tryz.underlying3 h0;obtain⟨v1,e1,w1⟩:=Jt (d:=x1.1) (ps:=x1.2) h1;obtain⟨p2,g2,s2,e2,q2⟩:=jI (R:=jM) Tryz.underlying45 je Kl bO (fun _ _ _ _ hh _=>rd_int hh) (d:=x2.1) (ps:=x2.2) h2 hw2;simp at e0 e1 e2;obtain⟨rfl,rfl⟩:=e1;subst e0 e2;exact⟨⟨k0,v1.1,v1.2,s2⟩,_,rfl,I64.of_wf w0,w1,⟨p2,g2,rfl,capQ q2⟩⟩
theorem rd_blk (h:DataW.trod enc Tryz.prog w 0 (fun _=>true) true fuel 49 cs=some (d,ps)) (hw:∀k∈d.weights Tryz.prog 49,k<=reachBytes):∃x,BlkR w cs x:=by
 obtain⟨xs,n,_,hx,hlen,hxl,hf⟩:=DataW.trod_struct Tryz.underlying49 h;simp only[Prod.mk.injEq]at hx;obtain⟨rfl,_⟩:=hx;rw[Kh]at hlen;obtain⟨c0,c1,c2,c3,c4,c5,rfl⟩:=len_6 hlen;obtain⟨x0,x1,x2,rfl⟩:=len_3 (show xs.length=3 by simpa using hxl);have h0:DataW.trod enc Tryz.prog w 0 (fun _=>true) true n 41 (([c0,c1,c2,c3,c4,c5].drop 0).take (Tryz.prog.cellsOf 41))=some x0:=hf 0 _ rfl;rw[cellsPhis]at h0;have h1:DataW.trod enc Tryz.prog w 0 (fun _=>true) true n 42 (([c0,c1,c2,c3,c4,c5].drop 1).take (Tryz.prog.cellsOf 42))=some x1:=hf 1 _ rfl;rw[cellsInss]at h1;have h2:DataW.trod enc Tryz.prog w 0 (fun _=>true) true n 47 (([c0,c1,c2,c3,c4,c5].drop 2).take (Tryz.prog.cellsOf 47))=some x2:=hf 2 _ rfl;rw[Kg]at h2
 have hw0:∀k∈x0.1.weights Tryz.prog 41,k<=reachBytes:=by
  intro k hk;refine hw k ?_;unfold DataW.weights;rw[Tryz.underlying49];simp only[yS,yw,DataW.weightsEach];simp[hk]
 have hw1:∀k∈x1.1.weights Tryz.prog 42,k<=reachBytes:=by
  intro k hk;refine hw k ?_;unfold DataW.weights;rw[Tryz.underlying49];simp only[yS,yw,DataW.weightsEach];simp[hk]
 have hw2:∀k∈x2.1.weights Tryz.prog 47,k<=reachBytes:=by
  intro k hk;refine hw k ?_;unfold DataW.weights;rw[Tryz.underlying49];simp only[yS,yw,DataW.weightsEach];simp[hk]
 obtain⟨p0,g0,s0,e0,q0⟩:=jI (R:=PhiR w) Tryz.underlying41 Kf bytesPhi bO (fun _ _ _ _ hh hw=>rd_phi hh hw) (d:=x0.1) (ps:=x0.2) h0 hw0;obtain⟨p1,g1,s1,e1,q1⟩:=jI (R:=InsR w) Tryz.underlying42 Ke bytesIns bO (fun _ _ _ _ hh hw=>rd_ins hh hw) (d:=x1.1) (ps:=x1.2) h1 hw1;obtain⟨f2,v2,e2,w2,u2,q2⟩:=rd_end (d:=x2.1) (ps:=x2.2) h2 hw2;simp at e0 e1 e2;obtain⟨rfl,rfl,rfl,rfl⟩:=e2;subst e0 e1;exact⟨⟨s0,s1,f2⟩,_,_,_,rfl,w2,u2,⟨p0,g0,rfl,capQ q0⟩,⟨p1,g1,rfl,capQ q1⟩,q2⟩
theorem rd_fun (h:DataW.trod enc Tryz.prog w 0 (fun _=>true) true fuel 38 cs=some (d,ps)) (hw:∀k∈d.weights Tryz.prog 38,k<=reachBytes):∃x,FunR w cs x:=by
 obtain⟨xs,n,_,hx,hlen,hxl,hf⟩:=DataW.trod_struct Tryz.underlying38 h;simp only[Prod.mk.injEq]at hx;obtain⟨rfl,_⟩:=hx;rw[Ki]at hlen;obtain⟨c0,c1,c2,c3,rfl⟩:=Yf hlen;obtain⟨x0,x1,x2,x3,rfl⟩:=Yf (show xs.length=4 by simpa using hxl);have h0:DataW.trod enc Tryz.prog w 0 (fun _=>true) true n 9 (([c0,c1,c2,c3].drop 0).take (Tryz.prog.cellsOf 9))=some x0:=hf 0 _ rfl;rw[Kd]at h0;have h1:DataW.trod enc Tryz.prog w 0 (fun _=>true) true n 3 (([c0,c1,c2,c3].drop 1).take (Tryz.prog.cellsOf 3))=some x1:=hf 1 _ rfl;rw[je]at h1;have h2:DataW.trod enc Tryz.prog w 0 (fun _=>true) true n 3 (([c0,c1,c2,c3].drop 2).take (Tryz.prog.cellsOf 3))=some x2:=hf 2 _ rfl;rw[je]at h2;have h3:DataW.trod enc Tryz.prog w 0 (fun _=>true) true n 36 (([c0,c1,c2,c3].drop 3).take (Tryz.prog.cellsOf 36))=some x3:=hf 3 _ rfl;rw[cellsBlks]at h3
 have hw0:∀k∈x0.1.weights Tryz.prog 9,k<=reachBytes:=by
  intro k hk;refine hw k ?_;unfold DataW.weights;rw[Tryz.underlying38];simp only[yS,yw,DataW.weightsEach];simp[hk]
 have hw3:∀k∈x3.1.weights Tryz.prog 36,k<=reachBytes:=by
  intro k hk;refine hw k ?_;unfold DataW.weights;rw[Tryz.underlying38];simp only[yS,yw,DataW.weightsEach];simp[hk]
 obtain⟨k0,e0,ex0,_⟩:=DataW.trod_string Tryz.underlying9 h0
 have z0:k0.size<=reachBytes:=by
  have:=hw0 k0.data.toList.length (by rw[ex0];unfold DataW.weights;simp);simpa using this
 obtain⟨k1,e1,_,w1⟩:=DataW.trod_int Tryz.underlying3 h1;obtain⟨k2,e2,_,w2⟩:=DataW.trod_int Tryz.underlying3 h2;obtain⟨p3,g3,s3,e3,q3⟩:=jI (R:=BlkR w) Tryz.underlying36 Kh bytesBlk bO (fun _ _ _ _ hh hw=>rd_blk hh hw) (d:=x3.1) (ps:=x3.2) h3 hw3;simp at e0 e1 e2 e3;subst e0 e1 e2 e3;exact⟨⟨k0,k1,k2,s3⟩,_,rfl,z0,I64.of_wf w1,I64.of_wf w2,⟨p3,g3,rfl,capQ q3⟩⟩
theorem rd_glo (h:DataW.trod enc Tryz.prog w 0 (fun _=>true) true fuel 61 cs=some (d,ps)) (hw:∀k∈d.weights Tryz.prog 61,k<=reachBytes):∃x,GloR w cs x:=by
 obtain⟨xs,n,_,hx,hlen,hxl,hf⟩:=DataW.trod_struct Tryz.underlying61 h;simp only[Prod.mk.injEq]at hx;obtain⟨rfl,_⟩:=hx;rw[Kj]at hlen;obtain⟨c0,c1,c2,rfl⟩:=len_3 hlen;obtain⟨x0,x1,x2,rfl⟩:=len_3 (show xs.length=3 by simpa using hxl);have h0:DataW.trod enc Tryz.prog w 0 (fun _=>true) true n 9 (([c0,c1,c2].drop 0).take (Tryz.prog.cellsOf 9))=some x0:=hf 0 _ rfl;rw[Kd]at h0;have h1:DataW.trod enc Tryz.prog w 0 (fun _=>true) true n 3 (([c0,c1,c2].drop 1).take (Tryz.prog.cellsOf 3))=some x1:=hf 1 _ rfl;rw[je]at h1;have h2:DataW.trod enc Tryz.prog w 0 (fun _=>true) true n 45 (([c0,c1,c2].drop 2).take (Tryz.prog.cellsOf 45))=some x2:=hf 2 _ rfl;rw[Js]at h2
 have hw0:∀k∈x0.1.weights Tryz.prog 9,k<=reachBytes:=by
  intro k hk;refine hw k ?_;unfold DataW.weights;rw[Tryz.underlying61];simp only[yS,yw,DataW.weightsEach];simp[hk]
 have hw2:∀k∈x2.1.weights Tryz.prog 45,k<=reachBytes:=by
  intro k hk;refine hw k ?_;unfold DataW.weights;rw[Tryz.underlying61];simp only[yS,yw,DataW.weightsEach];simp[hk]
 obtain⟨k0,e0,ex0,_⟩:=DataW.trod_string Tryz.underlying9 h0
 have z0:k0.size<=reachBytes:=by
  have:=hw0 k0.data.toList.length (by rw[ex0];unfold DataW.weights;simp);simpa using this
 obtain⟨k1,e1,_,w1⟩:=DataW.trod_int Tryz.underlying3 h1;obtain⟨p2,g2,s2,e2,q2⟩:=jI (R:=jM) Tryz.underlying45 je Kl bO (fun _ _ _ _ hh _=>rd_int hh) (d:=x2.1) (ps:=x2.2) h2 hw2;simp at e0 e1 e2;subst e0 e1 e2;exact⟨⟨k0,k1,s2⟩,_,rfl,z0,I64.of_wf w1,⟨p2,g2,rfl,capQ q2⟩⟩
theorem rd_uni (h:DataW.trod enc Tryz.prog w 0 (fun _=>true) true fuel 25 cs=some (d,ps)) (hw:∀k∈d.weights Tryz.prog 25,k<=reachBytes):∃x,UniR w cs x:=by
 obtain⟨xs,n,_,hx,hlen,hxl,hf⟩:=DataW.trod_struct Tryz.underlying25 h;simp only[Prod.mk.injEq]at hx;obtain⟨rfl,_⟩:=hx;rw[cellsUni]at hlen;obtain⟨c0,c1,rfl⟩:=Ye hlen;obtain⟨x0,x1,rfl⟩:=Ye (show xs.length=2 by simpa using hxl);have h0:DataW.trod enc Tryz.prog w 0 (fun _=>true) true n 22 (([c0,c1].drop 0).take (Tryz.prog.cellsOf 22))=some x0:=hf 0 _ rfl;rw[cellsGlos]at h0;have h1:DataW.trod enc Tryz.prog w 0 (fun _=>true) true n 23 (([c0,c1].drop 1).take (Tryz.prog.cellsOf 23))=some x1:=hf 1 _ rfl;rw[cellsFuns]at h1
 have hw0:∀k∈x0.1.weights Tryz.prog 22,k<=reachBytes:=by
  intro k hk;refine hw k ?_;unfold DataW.weights;rw[Tryz.underlying25];simp only[yS,yw,DataW.weightsEach];simp[hk]
 have hw1:∀k∈x1.1.weights Tryz.prog 23,k<=reachBytes:=by
  intro k hk;refine hw k ?_;unfold DataW.weights;rw[Tryz.underlying25];simp only[yS,yw,DataW.weightsEach];simp[hk]
 obtain⟨p0,g0,s0,e0,q0⟩:=jI (R:=GloR w) Tryz.underlying22 Kj bytesGlo bO (fun _ _ _ _ hh hw=>rd_glo hh hw) (d:=x0.1) (ps:=x0.2) h0 hw0;obtain⟨p1,g1,s1,e1,q1⟩:=jI (R:=FunR w) Tryz.underlying23 Ki bytesFun bO (fun _ _ _ _ hh hw=>rd_fun hh hw) (d:=x1.1) (ps:=x1.2) h1 hw1;simp at e0 e1;subst e0 e1;exact⟨⟨s0,s1⟩,_,_,rfl,⟨p0,g0,rfl,capQ q0⟩,⟨p1,g1,rfl,capQ q1⟩⟩
end
end Go.Proofs.YtgjjhadbjmcnpaaGreatDoor
namespace Go.Proofs.YtgjjhadbjmcnpaaGreatDoor
open Go.RowKit

def xT (n lo hi:Int):Bool:=decide (lo<=n/\n<=hi)
theorem qJ (n lo hi:Int) (w:World) :
  Calls Tryz.prog 26 #[Z n,Z lo,Z hi] w fun e w'=>e = .returned (.bool (xT n lo hi))/\w=w':=by
 by_cases h1:lo<=n
 ·by_cases h2:n<=hi
  all_goals
   go_enter Tryz.func26,Tryz.ntmps26
   go_wp2
   go_ret
   exact⟨by simp[xT];omega,rfl⟩
 go_enter Tryz.func26,Tryz.ntmps26
 go_wp2
 go_ret
 exact⟨by simp[xT];omega,rfl⟩
theorem jo (c a:Int) (w:World) :
  Calls Tryz.prog 23 #[Z c,Z a] w fun e w'=>e = .returned (.agg #[Z c,Z a])/\w'=w.alloc (.cells #[Z c,Z a] 27):=by
 go_enter Tryz.func23,Tryz.ntmps23
 go_wp2
 refine zk ?_ rfl ⟨rfl,rfl⟩;simp[results,Tryz.results23,go_sem]

def xt (regs:Int) (r:Bool) (n:Int):Int:=if r=true/\¬(0<=n/\n<=regs - 1)then 3 else 0
def k7 (regs n:Int):Int:=if 0<=n/\n<=regs - 1 then 0 else 3

theorem vP (g1 f1 b1 a1:Option Addr) (g2 g3 f2 f3 b2 b3 a2 a3:Nat) (nm:ByteArray) (params regs n:Int) (r:Bool) (w:World) (h1:0<=regs) (h2:regs<=9223372036854775807) :
  Calls Tryz.prog 81 #[.agg #[.slice g1 g2 g3,.slice f1 f2 f3,.string nm,Z params,Z regs,.slice b1 b2 b3,.slice a1 a2 a3],.agg #[.bool r,Z n]] w fun e w'=>e = .returned (Z (xt regs r n))/\Below w.heap.size w w':=by
 cases r
 ·go_enter Tryz.func81,Tryz.ntmps81
  go_wp2
  go_ret
  exact⟨rfl,by exact bZ⟩
 by_cases h:0<=n/\n<=regs - 1
 ·have hw:xT n 0 (regs - 1)=true:=by simp[xT];omega
  have HV:Hid (xt regs true n=0):=by show _=_;unfold xt;rw[zQ bW]
  go_enter Tryz.func81,Tryz.ntmps81
  go_wp2_with (go_at_call 26;refine(qJ _ _ _ _).mono ?_;rintro e w1 ⟨rfl,rfl⟩)
  go_ret
  refine⟨by rw[HV.out];rfl,?_⟩;exact bZ
 have hw:xT n 0 (regs - 1)=false:=by simp only[xT,xA];exact h
 have HV:Hid (xt regs true n=3):=by show _=_;unfold xt;rw[zZ ⟨rfl,h⟩]
 clear h
 go_enter Tryz.func81,Tryz.ntmps81
 go_wp2_with (go_at_call 26;refine(qJ _ _ _ _).mono ?_;rintro e w1 ⟨rfl,rfl⟩)
 go_ret
 refine⟨by rw[HV.out];rfl,?_⟩;exact bZ
theorem Zm (g1 f1 b1 a1:Option Addr) (g2 g3 f2 f3 b2 b3 a2 a3:Nat) (nm:ByteArray) (params regs n:Int) (w:World) (h1:0<=regs) (h2:regs<=9223372036854775807) :
  Calls Tryz.prog 82 #[.agg #[.slice g1 g2 g3,.slice f1 f2 f3,.string nm,Z params,Z regs,.slice b1 b2 b3,.slice a1 a2 a3],Z n] w fun e w'=>e = .returned (Z (k7 regs n))/\Below w.heap.size w w':=by
 by_cases h:0<=n/\n<=regs - 1
 ·have hw:xT n 0 (regs - 1)=true:=by simp[xT];omega
  have HV:Hid (k7 regs n=0):=by show _=_;unfold k7;rw[zZ h]
  go_enter Tryz.func82,Tryz.ntmps82
  go_wp2_with (go_at_call 26;refine(qJ _ _ _ _).mono ?_;rintro e w1 ⟨rfl,rfl⟩)
  go_ret
  refine⟨by rw[HV.out];rfl,?_⟩;exact bZ
 have hw:xT n 0 (regs - 1)=false:=by simp only[xT,xA];exact h
 have HV:Hid (k7 regs n=3):=by show _=_;unfold k7;rw[zQ h]
 clear h
 go_enter Tryz.func82,Tryz.ntmps82
 go_wp2_with (go_at_call 26;refine(qJ _ _ _ _).mono ?_;rintro e w1 ⟨rfl,rfl⟩)
 go_ret
 refine⟨by rw[HV.out];rfl,?_⟩;exact bZ

def XD (c:Int) (first:Bool):Bool:=(decide (97<=c)&&decide (c<=122)) || (decide (65<=c)&&decide (c<=90)) || c == 95 || (!first&&(decide (48<=c)&&decide (c<=57)))
theorem nameC_iff (c:Int) (f:Bool):XD c f=true↔(97<=c/\c<=122)\/(65<=c/\c<=90)\/c=95\/(f=false/\48<=c/\c<=57):=by
 unfold XD;cases f<;>simp[or_assoc]
def k9 (s:ByteArray):Bool:=decide (1<=s.size/\s.size<=12/\∀i (h:i<s.size),XD s[i].toNat (decide (i=0))=true)
theorem Zd (s:ByteArray) (w:World) (hs:s.size<=maxLen) :
    Calls Tryz.prog 24 #[.string s] w fun e w'=>e = .returned (.bool (k9 s))/\w=w':=by
  unfold maxLen at hs
  by_cases hz:1<=s.size/\s.size<=12
  · obtain⟨hz1,hz2⟩:=hz
    go_enter Tryz.func24,Tryz.ntmps24
    go_wp2
    go_loop [15] (fun i=>∃k:Nat,k<=s.size/\i=Z k/\∀j (h:j<s.size),j<k->XD s[j].toNat (decide (j=0))=true) (fun i=>s.size - (intOf i).toNat)
    case atStart=>exact⟨0,by omega,rfl,fun j _ hj=>by omega⟩
    case round=>
      obtain⟨k,hk,rfl,hV⟩:=hrel;have HV:Hid (∀j (h:j<s.size),j<k->XD s[j].toNat (decide (j=0))=true):=hV;clear hV
      by_cases hlt:k<s.size
      · have Hlt:Hid (k<s.size):=hlt
        have HY:Hid (XD s[k].toNat (decide (k=0))=true->∀j (h:j<s.size),j<k+1->XD s[j].toNat (decide (j=0))=true):=by
          show _->_;intro hy j hj hjk
          by_cases hj2:j<k
          · exact HV.out j hj hj2
          · obtain rfl:j=k:=by omega
            exact hy
        have HN:Hid (¬ XD s[k].toNat (decide (k=0))=true->k9 s=false):=by
          show _->_;intro hn;unfold k9;rw[decide_eq_false];rintro⟨_,_,hall⟩;exact hn (hall k hlt)
        have HI:Hid (XD s[k].toNat (decide (k=0))=true↔(97<=(s[k].toNat:Int)/\(s[k].toNat:Int)<=122)\/(65<=(s[k].toNat:Int)/\(s[k].toNat:Int)<=90)\/(s[k].toNat:Int)=95\/(decide (k=0)=false/\48<=(s[k].toNat:Int)/\(s[k].toNat:Int)<=57)):=nameC_iff _ _;clear HV
        go_wp2
        all_goals first
          | (refine⟨⟨k+1,by omega,by go_num,HY.out (HI.out.2 ?_)⟩,by simp[intOf];omega⟩
             clear HY HN HI;simp at *
             omega)
          | (go_ret
             refine⟨?_,rfl⟩
             rw[HN.out (fun h=>by
               have h2:=HI.out.1 h;clear HY HN HI h;simp at *
               omega)]
             rfl)
      · go_wp2
        go_ret
        refine⟨?_,rfl⟩;rw[show k9 s=true from ?_]
        · rfl
        · unfold k9
          rw[yY];exact⟨by omega,by omega,fun i hi=>HV.out i hi bO⟩
  · have HN:Hid (k9 s=false):=by
      show _=_;unfold k9;rw[decide_eq_false];rintro⟨a,b,_⟩;exact hz ⟨a,b⟩
    by_cases h1:s.size<1
    · clear hz
      go_enter Tryz.func24,Tryz.ntmps24
      go_wp2
      go_ret
      exact⟨by rw[HN.out];rfl,rfl⟩
    · have h2:12<s.size:=by omega
      clear hz
      go_enter Tryz.func24,Tryz.ntmps24
      go_wp2
      go_ret
      exact⟨by rw[HN.out];rfl,rfl⟩

def Tells (F:FuncId) (cap:Value) (w:World) (P:Int->Bool):Prop:=
 ∀(w1:World) (x:Int),Below w.heap.size w w1->Calls Tryz.prog F #[Z x,cap] w1 fun e w2=>e = .returned (.bool (P x))/\Below w1.heap.size w1 w2

theorem XE (cap:Addr) (P:Int->Bool) (b o c n:Nat) (S:Nat->Int) (w:World) (hn:n<=9223372036854775807) (hb:b<w.heap.size) (hc:∀i,i<n->w.cell? (J b (o+i))=some (Z (S i))) (hf:Tells 80 (.pointer (some cap)) w P) :
  Calls Tryz.prog 104 #[.slice (some (J b o)) n c,.func (.func 80) #[] #[.pointer (some cap)]] w fun e w'=>(∃k:Int,e = .returned (Z k)/\Hid ((k<0/\∀i,i<n->P (S i)=false)\/(0<=k/\∃i,i<n/\P (S i)=true)))/\Below w.heap.size w w':=by
 have HF:Hid (Tells 80 (.pointer (some cap)) w P):=hf;have HC:Hid (∀i,i<n->w.cell? (J b (o+i))=some (Z (S i))):=hc;clear hf hc
 go_enter Tryz.func104,Tryz.ntmps104
 go_wp2
 go_loopw [8] (fun i wr=>∃k:Nat,k<=n/\i=Z k/\(∀j,j<k->P (S j)=false)/\Below w.heap.size w wr) (fun i _=>n - (intOf i).toNat)
 case atStart=>exact⟨0,by omega,rfl,fun j hj=>by omega,zI _ _⟩
 case round=>
  obtain⟨k,hk,rfl,hV,hB⟩:=hrel;have HV:Hid (∀j,j<k->P (S j)=false):=hV;have HB:Hid (Below w.heap.size w wr):=hB;clear hV hB
  by_cases hlt:k<n
  rotate_left
  ·go_wp2
   go_ret
   refine⟨⟨_,rfl,.inl ⟨by omega,fun i hi=>HV.out i bO⟩⟩,?_⟩;exact HB.out
  have c0:wr.cell? (J b (o+k))=some (Z (S k)):=(HB.out.cell (p:=(J b (o+k))) hb).trans (HC.out k hlt);have Hlt:Hid (k<n):=hlt;generalize hs:S k=s at c0;have HS:Hid (S k=s):=hs;clear hs
  go_wp2_with fail
  refine(HF.out wr s HB.out).mono ?_;rintro e w2 ⟨rfl,hb2⟩;have HB2:Hid (Below w.heap.size w w2):=HB.out.trans (hb2.mono HB.out.size);clear hb2;cases hp:P s
  ·have HP:Hid (P (S k)=false):=(by rw[HS.out];exact hp);clear hp
   go_wp2
   refine⟨⟨k+1,by omega,by go_num,fun j hj=>?_,HB2.out⟩,by simp[intOf];omega⟩
   by_cases hj2:j<k
   ·exact HV.out j hj2
   obtain rfl:j=k:=(by omega);exact HP.out
  have HP:Hid (P (S k)=true):=by rw[HS.out];exact hp
  clear hp
  go_wp2
  go_ret
  exact⟨⟨_,rfl,.inr ⟨by simp,k,Hlt.out,HP.out⟩⟩,HB2.out⟩
theorem X5 (cap:Addr) (p:Option Addr) (c:Nat) (w:World) :
  Calls Tryz.prog 104 #[.slice p 0 c,.func (.func 80) #[] #[.pointer (some cap)]] w fun e w'=>e = .returned (Z (-1))/\w=w':=by
 go_enter Tryz.func104,Tryz.ntmps104
 go_wp2
 go_loop [8] (fun i=>i=Z 0) (fun _=>0)
 case atStart=>rfl
 case round=>
  subst hrel
  go_wp2
  go_ret
  exact⟨rfl,rfl⟩

theorem zY (cap:Addr) (P:Int->Bool) (p:Option Addr) (c:Nat) (S:List Int) (w:World) (hn:S.length<=9223372036854775807) (h:SliceAt w 1 jM p S) (hf:Tells 80 (.pointer (some cap)) w P) :
  Calls Tryz.prog 79 #[.slice p S.length c,.func (.func 80) #[] #[.pointer (some cap)]] w fun e w'=>e = .returned (.bool (S.any P))/\Below w.heap.size w w':=by
 rcases Nat.eq_zero_or_pos S.length with h0|h0
 ·obtain rfl:=yd.1 h0;clear h hf h0
  go_enter Tryz.func79,Tryz.ntmps79
  go_wp2_with (go_at_call 104;refine(X5 _ _ _ _).mono ?_;rintro e w1 ⟨rfl,rfl⟩)
  go_ret
  exact⟨rfl,zI _ _⟩
 rcases h with rfl|⟨b,o,rfl,h⟩
 ·exact absurd h0 bV
 have HC:Hid (∀i,i<S.length->w.cell? (J b (o+i))=some (Z (S.getD i 0))):=fun i hi=>by
  obtain⟨cs,_,hc,⟨rfl,_⟩⟩:=h i hi;have:=hc 0 bO;simp only[Nat.mul_one,yJ]at this;rw[this];simp[List.getD,hi]
 have hb:b<w.heap.size:=q9 (HC.out 0 h0);have HF:Hid (Tells 80 (.pointer (some cap)) w P):=hf;clear h hf
 go_enter Tryz.func79,Tryz.ntmps79
 go_wp2_with fail
 refine(XE _ P _ _ _ _ (fun i=>S.getD i 0) _ hn hb HC.out HF.out).mono ?_;rintro e w1 ⟨⟨k,rfl,hk⟩,hb1⟩
 by_cases hk0:0<=k
 ·have HB:Hid (S.any P=true):=by
   show _=_;rcases hk.out with⟨h1,_⟩|⟨_,i,hi,hs⟩
   ·omega
   rw[List.any_eq_true];exact⟨S[i],zP hi,by simpa[List.getD,hi]using hs⟩
  clear hk
  go_wp2
  go_ret
  exact⟨by rw[HB.out];simp,hb1⟩
 have HB:Hid (S.any P=false):=by
  show _=_;rcases hk.out with⟨_,h2⟩|⟨h1,_⟩
  ·rw[List.any_eq_false];intro x hx;obtain⟨i,hi,rfl⟩:=yp.1 hx;have:=h2 i hi;simpa[List.getD,hi]using this
  omega
 clear hk
 go_wp2
 go_ret
 exact⟨by rw[HB.out];simp;omega,hb1⟩

theorem Zn (r r':Bool) (x x':Int) (w:World) :
  (binOp .neq 44 (.agg #[.bool r,Z x]) (.agg #[.bool r',Z x'])).run Tryz.prog w = .ok (.bool (!(r == r'&&x == x'))) w:=by
 by_cases h1:r=r'<;>by_cases h2:x=x'<;>simp[go_sem,h1,h2]
theorem Q7 (x y x' y':Int) (w:World) :
  (binOp .eql 27 (.agg #[Z x,Z y]) (.agg #[Z x',Z y'])).run Tryz.prog w = .ok (.bool (x == x'&&y == y')) w:=by
 by_cases h1:x=x'<;>by_cases h2:y=y'<;>simp[go_sem,h1,h2]
theorem jp (x y x' y':Int) (w:World) :
  (binOp .neq 27 (.agg #[Z x,Z y]) (.agg #[Z x',Z y'])).run Tryz.prog w = .ok (.bool (!(x == x'&&y == y'))) w:=by
 by_cases h1:x=x'<;>by_cases h2:y=y'<;>simp[go_sem,h1,h2]

theorem SliceAt.to {α:Type} {w w':World} {size:Nat} {R R':List Value->α->Prop} {p:Option Addr} {xs:List α} (h:SliceAt w size R p xs) (hz:0<size) (hb:Below w.heap.size w w') (hR:∀cs,∀x∈xs,R cs x->R' cs x):SliceAt w' size R' p xs:=by
 rcases h with h|⟨b,o,hp,h⟩
 ·exact .inl h
 refine .inr ⟨b,o,hp,fun i hi=>?_⟩;obtain⟨cs,hl,hc,hx⟩:=h i hi;refine⟨cs,hl,fun j hj=>?_,hR _ _ (zP hi) hx⟩;have h0:=hc 0 hz;obtain⟨v,hv⟩:∃v,cs[0]?=some v:=⟨cs[0]'bO,zj bO⟩;rw[hv]at h0;exact(hb.cell (p:=(J b (o+i*size+j))) (q9 h0:b<_)).trans (hc j hj)

theorem end1_any (n:Int) (B nb b3:Nat) (b1:Option Addr) (w:World) (hn:nb<=9223372036854775807) (hc:w.cell? (J B 5)=some (.slice b1 nb b3)) :
  Calls Tryz.prog 80 #[Z n,.pointer (some (J B 0))] w fun e w'=>e = .returned (.bool (!xT n 1 ((nb:Int) - 1)))/\w=w':=by
 go_enter Tryz.func80,Tryz.ntmps80
 go_wp2_with (go_at_call 26;refine(qJ _ _ _ _).mono ?_;rintro e w1 ⟨rfl,rfl⟩)
 go_ret
 exact⟨rfl,rfl⟩
theorem jq (B nb b3:Nat) (b1:Option Addr) (w:World) (hn:nb<=9223372036854775807) (hc:w.cell? (J B 5)=some (.slice b1 nb b3)) :
  Tells 80 (.pointer (some (J B 0))) w fun n=>!xT n 1 ((nb:Int) - 1):=by
 intro w1 x hb;refine(end1_any x B nb b3 b1 w1 hn ((hb.cell (p:=(J B 5)) (q9 hc)).trans hc)).mono ?_;rintro e w2 ⟨rfl,rfl⟩;exact⟨rfl,zI _ _⟩

def kD (regs:Int) (nb:Nat) (kind:Int) (r:Bool) (n:Int) (to:List Int):Int:=
 if ¬(1<=kind/\kind<=3)then 4
 else if(to.length:Int)≠kind - 1 then 9
 else if to.any (fun t=>!xT t 1 ((nb:Int) - 1))then 3
 else if kind=3/\to.getD 0 0=to.getD 1 0\/kind=2/\¬(r=false/\n=0)then 5
 else xt regs r n

def Ways (w:World):Prop:=w.cell? (J 0 0)=some (Z 0)/\w.cell? (J 0 1)=some (Z 0)/\w.cell? (J 0 2)=some (Z 1)/\w.cell? (J 0 3)=some (Z 2)

theorem end_bad (g1 f1 b1 a1 tp:Option Addr) (g2 g3 f2 f3 nb b3 a2 a3 tc:Nat) (nm:ByteArray) (params regs kind n:Int) (r:Bool) (to:List Int) (w:World) (h:¬(1<=kind/\kind<=3)) :
  Calls Tryz.prog 57 #[.agg #[.slice g1 g2 g3,.slice f1 f2 f3,.string nm,Z params,Z regs,.slice b1 nb b3,.slice a1 a2 a3],.agg #[Z kind,.bool r,Z n,.slice tp to.length tc]] w fun e w'=>e = .returned (Z (kD regs nb kind r n to))/\Below w.heap.size w w':=by
 have hw:xT kind 1 3=false:=by simp only[xT,xA];exact h
 have HV:Hid (kD regs nb kind r n to=4):=by show _=_;unfold kD;rw[zZ h]
 clear h
 go_enter Tryz.func57,Tryz.ntmps57
 go_wp2_with (go_at_call 26;refine(qJ _ _ _ _).mono ?_;rintro e w1 ⟨rfl,rfl⟩)
 go_ret
 refine⟨by rw[HV.out];rfl,?_⟩;exact bZ

theorem end_len (g1 f1 b1 a1 tp:Option Addr) (g2 g3 f2 f3 nb b3 a2 a3 tc:Nat) (nm:ByteArray) (params regs kind n:Int) (r:Bool) (to:List Int) (w:World) (hk:kind=1\/kind=2\/kind=3) (h:(to.length:Int)≠kind - 1)
  (hl:to.length<=9223372036854775807) (hw0:Ways w) :
  Calls Tryz.prog 57 #[.agg #[.slice g1 g2 g3,.slice f1 f2 f3,.string nm,Z params,Z regs,.slice b1 nb b3,.slice a1 a2 a3],.agg #[Z kind,.bool r,Z n,.slice tp to.length tc]] w fun e w'=>e = .returned (Z (kD regs nb kind r n to))/\Below w.heap.size w w':=by
 have HV:Hid (kD regs nb kind r n to=9):=by show _=_;unfold kD;rw[zQ bO,zZ h]
 obtain⟨_,q1,q2,q3⟩:=hw0;have hsz:=q9 q1;have hsz1:0<w.heap.size+1:=by omega
 generalize to.length=m at *;have hw1:xT 1 1 3=true:=rfl;have hw2:xT 2 1 3=true:=rfl;have hw3:xT 3 1 3=true:=rfl;have hm1:Hid ((m:Int)≠kind - 1):=h;rcases hk with rfl|rfl|rfl
 all_goals
  have hb:=bne_iff_ne.2 hm1.out;simp only[Int.reduceSub]at hb;clear h
  go_enter Tryz.func57,Tryz.ntmps57
  go_wp2_with (go_at_call 26;refine(qJ _ _ _ _).mono ?_;rintro e w1 ⟨rfl,rfl⟩)
  go_quiet (fail)
  go_wp2
  go_ret
  refine⟨by rw[HV.out];rfl,?_⟩;exact bZ
theorem end_kind1 (g1 f1 b1 a1 tp:Option Addr) (g2 g3 f2 f3 nb b3 a2 a3 tc:Nat) (nm:ByteArray) (params regs n:Int) (r:Bool) (w:World)
  (hr1:0<=regs) (hr2:regs<=9223372036854775807) (hn:nb<=9223372036854775807) (hto:SliceAt w 1 jM tp []) (hw0:Ways w) :
  Calls Tryz.prog 57 #[.agg #[.slice g1 g2 g3,.slice f1 f2 f3,.string nm,Z params,Z regs,.slice b1 nb b3,.slice a1 a2 a3],.agg #[Z 1,.bool r,Z n,.slice tp 0 tc]] w fun e w'=>e = .returned (Z (kD regs nb 1 r n []))/\Below w.heap.size w w':=by
 obtain⟨_,q1,q2,q3⟩:=hw0;have hsz:=q9 q1;have hsz1:0<w.heap.size+1:=by omega
 have hw1:xT 1 1 3=true:=rfl;have hw2:xT 2 1 3=true:=rfl;have hw3:xT 3 1 3=true:=rfl;have HT:Hid (SliceAt w 1 jM tp []):=hto;have HN:Hid (nb<=9223372036854775807):=hn;have hany:([]:List Int).any (fun n=>!xT n 1 ((nb:Int) - 1))=false:=rfl;have HV:Hid (kD regs nb 1 r n []=xt regs r n):=by show _=_;simp[kD]
 clear hto hn
 go_enter Tryz.func57,Tryz.ntmps57
 go_wp2_with (go_at_call 26;refine(qJ _ _ _ _).mono ?_;rintro e w1 ⟨rfl,rfl⟩)
 go_quiet (fail)
 go_wp2_with fail
 refine(zY _ (fun n=>!xT n 1 ((nb:Int) - 1)) tp tc [] _ bV (HT.out.to (by decide) ?_ (fun _ _ _ h=>h)) (jq w.heap.size nb b3 b1 _ HN.out (by first|rfl|(simp;done)|(simp[World.cell?_alloc_some, *];done)))).mono ?_
 ·exact bZ
 rw[hany];rintro e w3 ⟨rfl,hb3⟩;obtain⟨hc3,hf3,hz3⟩:=Z5 hb3;simp at hz3;have hz4:w.heap.size<w3.heap.size:=by omega
 have hz5:w.heap.size+1<w3.heap.size:=by omega
 go_wp2
 go_quiet (fail)
 go_wp2_with fail
 refine(vP _ _ _ _ _ _ _ _ _ _ _ _ _ _ _ _ _ _ hr1 hr2).mono ?_;rintro e w4 ⟨rfl,hb4⟩
 go_wp2
 go_ret
 refine⟨by rw[HV.out];rfl,?_⟩;exact bZ
theorem end_kind2 (g1 f1 b1 a1 tp:Option Addr) (g2 g3 f2 f3 nb b3 a2 a3 tc:Nat) (nm:ByteArray) (params regs n:Int) (r:Bool) (t:Int) (w:World)
  (hr1:0<=regs) (hr2:regs<=9223372036854775807) (hn:nb<=9223372036854775807) (hto:SliceAt w 1 jM tp [t]) (hw0:Ways w) :
  Calls Tryz.prog 57 #[.agg #[.slice g1 g2 g3,.slice f1 f2 f3,.string nm,Z params,Z regs,.slice b1 nb b3,.slice a1 a2 a3],.agg #[Z 2,.bool r,Z n,.slice tp 1 tc]] w fun e w'=>e = .returned (Z (kD regs nb 2 r n [t]))/\Below w.heap.size w w':=by
 obtain⟨_,q1,q2,q3⟩:=hw0;have hsz:=q9 q1;have hsz1:0<w.heap.size+1:=by omega
 have hw1:xT 1 1 3=true:=rfl;have hw2:xT 2 1 3=true:=rfl;have hw3:xT 3 1 3=true:=rfl;have HT:Hid (SliceAt w 1 jM tp [t]):=hto;have HN:Hid (nb<=9223372036854775807):=hn;clear hto hn
 by_cases ht:xT t 1 ((nb:Int) - 1)=true
 rotate_left
 ·have hany:[t].any (fun n=>!xT n 1 ((nb:Int) - 1))=true:=by simp[ht]
  have HV:Hid (kD regs nb 2 r n [t]=3):=by show _=_;simp only[kD];rw[zQ bO,zQ bV,hany,zZ rfl]
  clear ht
  go_enter Tryz.func57,Tryz.ntmps57
  go_wp2_with (go_at_call 26;refine(qJ _ _ _ _).mono ?_;rintro e w1 ⟨rfl,rfl⟩)
  go_quiet (fail)
  go_wp2_with fail
  refine(zY _ (fun n=>!xT n 1 ((nb:Int) - 1)) tp tc [t] _ bV (HT.out.to (by decide) ?_ (fun _ _ _ h=>h)) (jq w.heap.size nb b3 b1 _ HN.out (by first|rfl|(simp;done)|(simp[World.cell?_alloc_some, *];done)))).mono ?_
  ·exact bZ
  rw[hany];rintro e w3 ⟨rfl,hb3⟩;obtain⟨hc3,hf3,hz3⟩:=Z5 hb3;simp at hz3;have hz4:w.heap.size<w3.heap.size:=by omega
  have hz5:w.heap.size+1<w3.heap.size:=by omega
  go_wp2
  go_ret
  refine⟨by rw[HV.out];rfl,?_⟩;exact bZ
 have hany:[t].any (fun n=>!xT n 1 ((nb:Int) - 1))=false:=by simp[ht]
 by_cases hv:r=false/\n=0
 ·obtain⟨rfl,rfl⟩:=hv;have HV:Hid (kD regs nb 2 false 0 [t]=xt regs false 0):=by show _=_;simp[kD,ht]
  clear ht
  go_enter Tryz.func57,Tryz.ntmps57
  go_wp2_with (go_at_call 26;refine(qJ _ _ _ _).mono ?_;rintro e w1 ⟨rfl,rfl⟩)
  go_quiet (fail)
  go_wp2_with fail
  refine(zY _ (fun n=>!xT n 1 ((nb:Int) - 1)) tp tc [t] _ bV (HT.out.to (by decide) ?_ (fun _ _ _ h=>h)) (jq w.heap.size nb b3 b1 _ HN.out (by first|rfl|(simp;done)|(simp[World.cell?_alloc_some, *];done)))).mono ?_
  ·exact bZ
  rw[hany];rintro e w3 ⟨rfl,hb3⟩;obtain⟨hc3,hf3,hz3⟩:=Z5 hb3;simp at hz3;have hz4:w.heap.size<w3.heap.size:=by omega
  have hz5:w.heap.size+1<w3.heap.size:=by omega
  go_wp2
  go_quiet (fail)
  go_wp2_with fail
  refine(vP _ _ _ _ _ _ _ _ _ _ _ _ _ _ _ _ _ _ hr1 hr2).mono ?_;rintro e w4 ⟨rfl,hb4⟩
  go_wp2
  go_ret
  refine⟨by rw[HV.out];rfl,?_⟩;exact bZ
 have HV:Hid (kD regs nb 2 r n [t]=5):=by show _=_;simp only[kD];rw[zQ bO,zQ bV,hany];simp;intro h1 h2;exact absurd ⟨h1,h2⟩ hv
 have he:∀w:World,(binOp .neq 44 (.agg #[.bool r,Z n]) (.agg #[.bool false,Z 0])).run Tryz.prog w = .ok (.bool true) w:=fun w=>by
  rw[Zn];cases r
  ·have hn0:n≠0:=fun h=>hv ⟨rfl,h⟩;simp[hn0]
  simp
 clear ht hv
 go_enter Tryz.func57,Tryz.ntmps57
 go_wp2_with (go_at_call 26;refine(qJ _ _ _ _).mono ?_;rintro e w1 ⟨rfl,rfl⟩)
 go_quiet (fail)
 go_wp2_with fail
 refine(zY _ (fun n=>!xT n 1 ((nb:Int) - 1)) tp tc [t] _ bV (HT.out.to (by decide) ?_ (fun _ _ _ h=>h)) (jq w.heap.size nb b3 b1 _ HN.out (by first|rfl|(simp;done)|(simp[World.cell?_alloc_some, *];done)))).mono ?_
 ·exact bZ
 rw[hany];rintro e w3 ⟨rfl,hb3⟩;obtain⟨hc3,hf3,hz3⟩:=Z5 hb3;simp at hz3;have hz4:w.heap.size<w3.heap.size:=by omega
 have hz5:w.heap.size+1<w3.heap.size:=by omega
 go_wp2
 go_quiet (fail)
 go_wp2
 go_ret
 refine⟨by rw[HV.out];rfl,?_⟩;exact bZ
theorem end_kind3 (g1 f1 b1 a1 tp:Option Addr) (g2 g3 f2 f3 nb b3 a2 a3 tc:Nat) (nm:ByteArray) (params regs n:Int) (r:Bool) (t u:Int) (w:World)
  (hr1:0<=regs) (hr2:regs<=9223372036854775807) (hn:nb<=9223372036854775807) (hto:SliceAt w 1 jM tp [t,u]) (hw0:Ways w) :
  Calls Tryz.prog 57 #[.agg #[.slice g1 g2 g3,.slice f1 f2 f3,.string nm,Z params,Z regs,.slice b1 nb b3,.slice a1 a2 a3],.agg #[Z 3,.bool r,Z n,.slice tp 2 tc]] w fun e w'=>e = .returned (Z (kD regs nb 3 r n [t,u]))/\Below w.heap.size w w':=by
 obtain⟨_,q1,q2,q3⟩:=hw0;have hsz:=q9 q1;have hsz1:0<w.heap.size+1:=by omega
 have hw1:xT 1 1 3=true:=rfl;have hw2:xT 2 1 3=true:=rfl;have hw3:xT 3 1 3=true:=rfl;have HT:Hid (SliceAt w 1 jM tp [t,u]):=hto;have HN:Hid (nb<=9223372036854775807):=hn
 obtain⟨bt,ot,rfl,q4,q5⟩:∃b o,tp=some (J b o)/\w.cell? (J b o)=some (Z t)/\w.cell? (J b (o+1))=some (Z u):=by
  rcases hto with h|⟨b,o,rfl,h⟩
  ·simp at h
  obtain⟨cs,_,h0,rfl,_⟩:=h 0 bV;obtain⟨cs',_,h1,rfl,_⟩:=h 1 bV;exact⟨b,o,rfl,by simpa using h0 0 bV,by simpa using h1 0 bV⟩
 have hst:=q9 q4;have huF:bt<w.heap.size+1:=by omega
 have hjQ:bt<w.heap.size+1+1:=by omega
 clear hto hn
 by_cases ht:xT t 1 ((nb:Int) - 1)=true/\xT u 1 ((nb:Int) - 1)=true
 rotate_left
 ·have hany:[t,u].any (fun n=>!xT n 1 ((nb:Int) - 1))=true:=by simp only[List.any,Bool.or_false];cases h1:xT t 1 ((nb:Int) - 1)<;>cases h2:xT u 1 ((nb:Int) - 1)<;>simp_all
  have HV:Hid (kD regs nb 3 r n [t,u]=3):=by show _=_;simp only[kD];rw[zQ bO,zQ bV,hany,zZ rfl]
  clear ht
  go_enter Tryz.func57,Tryz.ntmps57
  go_wp2_with (go_at_call 26;refine(qJ _ _ _ _).mono ?_;rintro e w1 ⟨rfl,rfl⟩)
  go_quiet (fail)
  go_wp2_with fail
  refine(zY _ (fun n=>!xT n 1 ((nb:Int) - 1)) (some (J bt ot)) tc [t,u] _ bV (HT.out.to (by decide) ?_ (fun _ _ _ h=>h)) (jq w.heap.size nb b3 b1 _ HN.out (by first|rfl|(simp;done)|(simp[World.cell?_alloc_some, *];done)))).mono ?_
  ·exact bZ
  rw[hany];rintro e w3 ⟨rfl,hb3⟩;obtain⟨hc3,hf3,hz3⟩:=Z5 hb3;simp at hz3;have hz4:w.heap.size<w3.heap.size:=by omega
  have hz5:w.heap.size+1<w3.heap.size:=by omega
  go_wp2
  go_ret
  refine⟨by rw[HV.out];rfl,?_⟩;exact bZ
 have hany:[t,u].any (fun n=>!xT n 1 ((nb:Int) - 1))=false:=by simp[ht]
 by_cases hv:t=u
 ·subst hv;have HV:Hid (kD regs nb 3 r n [t,t]=5):=by show _=_;simp only[kD];rw[zQ bO,zQ bV,hany];simp
  clear ht
  go_enter Tryz.func57,Tryz.ntmps57
  go_wp2_with (go_at_call 26;refine(qJ _ _ _ _).mono ?_;rintro e w1 ⟨rfl,rfl⟩)
  go_quiet (fail)
  go_wp2_with fail
  refine(zY _ (fun n=>!xT n 1 ((nb:Int) - 1)) (some (J bt ot)) tc [t,t] _ bV (HT.out.to (by decide) ?_ (fun _ _ _ h=>h)) (jq w.heap.size nb b3 b1 _ HN.out (by first|rfl|(simp;done)|(simp[World.cell?_alloc_some, *];done)))).mono ?_
  ·exact bZ
  rw[hany];rintro e w3 ⟨rfl,hb3⟩;obtain⟨hc3,hf3,hz3⟩:=Z5 hb3;simp at hz3;have hz4:w.heap.size<w3.heap.size:=by omega
  have hz5:w.heap.size+1<w3.heap.size:=by omega
  go_wp2
  go_quiet (fail)
  go_wp2
  go_ret
  refine⟨by rw[HV.out];rfl,?_⟩;exact bZ
 have HV:Hid (kD regs nb 3 r n [t,u]=xt regs r n):=by show _=_;simp only[kD];rw[zQ bO,zQ bV,hany];simp[hv]
 have hvb:(t == u)=false:=by simp[hv]
 clear ht
 go_enter Tryz.func57,Tryz.ntmps57
 go_wp2_with (go_at_call 26;refine(qJ _ _ _ _).mono ?_;rintro e w1 ⟨rfl,rfl⟩)
 go_quiet (fail)
 go_wp2_with fail
 refine(zY _ (fun n=>!xT n 1 ((nb:Int) - 1)) (some (J bt ot)) tc [t,u] _ bV (HT.out.to (by decide) ?_ (fun _ _ _ h=>h)) (jq w.heap.size nb b3 b1 _ HN.out (by first|rfl|(simp;done)|(simp[World.cell?_alloc_some, *];done)))).mono ?_
 ·exact bZ
 rw[hany];rintro e w3 ⟨rfl,hb3⟩;obtain⟨hc3,hf3,hz3⟩:=Z5 hb3;simp at hz3;have hz4:w.heap.size<w3.heap.size:=by omega
 have hz5:w.heap.size+1<w3.heap.size:=by omega
 go_wp2
 go_quiet (fail)
 go_wp2_with fail
 refine(vP _ _ _ _ _ _ _ _ _ _ _ _ _ _ _ _ _ _ hr1 hr2).mono ?_;rintro e w4 ⟨rfl,hb4⟩
 go_wp2
 go_ret
 refine⟨by rw[HV.out];rfl,?_⟩;exact bZ
theorem end_any (g1 f1 b1 a1 tp:Option Addr) (g2 g3 f2 f3 nb b3 a2 a3 tc:Nat) (nm:ByteArray) (params regs kind n:Int) (r:Bool) (to:List Int) (w:World)
  (hr1:0<=regs) (hr2:regs<=9223372036854775807) (hn:nb<=9223372036854775807) (hl:to.length<=9223372036854775807) (hto:SliceAt w 1 jM tp to) (hw0:Ways w) :
  Calls Tryz.prog 57 #[.agg #[.slice g1 g2 g3,.slice f1 f2 f3,.string nm,Z params,Z regs,.slice b1 nb b3,.slice a1 a2 a3],.agg #[Z kind,.bool r,Z n,.slice tp to.length tc]] w fun e w'=>e = .returned (Z (kD regs nb kind r n to))/\Below w.heap.size w w':=by
 by_cases hk:1<=kind/\kind<=3
 ·by_cases hlen:(to.length:Int)=kind - 1
  ·obtain rfl|rfl|rfl:kind=1\/kind=2\/kind=3:=by omega
   ·obtain rfl:to=[]:=yd.1 bO;exact end_kind1 _ _ _ _ _ _ _ _ _ _ _ _ _ _ _ _ _ _ _ _ hr1 hr2 hn hto hw0
   ·obtain⟨t,rfl⟩:∃t,to=[t]:=List.length_eq_one_iff.1 bO;exact end_kind2 _ _ _ _ _ _ _ _ _ _ _ _ _ _ _ _ _ _ _ _ _ hr1 hr2 hn hto hw0
   obtain⟨t,u,rfl⟩:∃t u,to=[t,u]:=by
    match to,hlen with
    | [t,u],_=>exact⟨t,u,rfl⟩
    | [],h=>simp at h
    | [_],h=>simp at h
    | _::_::_::_,h=>simp at h;omega
   exact end_kind3 _ _ _ _ _ _ _ _ _ _ _ _ _ _ _ _ _ _ _ _ _ _ hr1 hr2 hn hto hw0
  exact end_len _ _ _ _ _ _ _ _ _ _ _ _ _ _ _ _ _ _ _ _ _ _ bO hlen hl hw0
 exact end_bad _ _ _ _ _ _ _ _ _ _ _ _ _ _ _ _ _ _ _ _ _ _ hk

def qD:List Int->Int
 | []=>0
 | x::l=>if x=0 then qD l else x

theorem Zo {α:Type} (g:α->Int) (l:List α) (k:Nat) (h:k<l.length):qD ((l.drop k).map g)=if g l[k]=0 then qD ((l.drop (k+1)).map g)else g l[k]:=by
 rw[List.drop_eq_getElem_cons h];rfl

def Vt (regs:Int) (l:List (Bool×Int)):Int:=qD (l.map fun v=>xt regs v.1 v.2)

def X0 (regs:Int) (block cnt:Nat) (dst:Int) (l:List (Bool×Int)):Int:=
 if block=0 then 5
 else if k7 regs dst≠0 then k7 regs dst
 else if l.length≠cnt then 9
 else Vt regs l

theorem phi_0 (g1 f1 b1 a1 p:Option Addr) (g2 g3 f2 f3 b2 b3 a2 a3 l c cnt:Nat) (nm:ByteArray) (params regs dst:Int) (L:List (Bool×Int)) (w:World) :
  Calls Tryz.prog 59 #[.agg #[.slice g1 g2 g3,.slice f1 f2 f3,.string nm,Z params,Z regs,.slice b1 b2 b3,.slice a1 a2 a3],Z 0,.agg #[Z dst,.slice p l c]] w fun e w'=>e = .returned (Z (X0 regs 0 cnt dst L))/\Below w.heap.size w w':=by
 go_enter Tryz.func59,Tryz.ntmps59
 go_wp2
 go_ret
 refine⟨rfl,?_⟩;exact bZ

theorem phi_dst (g1 f1 b1 a1 p:Option Addr) (g2 g3 f2 f3 b2 b3 a2 a3 l c block cnt:Nat) (nm:ByteArray) (params regs dst:Int) (L:List (Bool×Int)) (w:World)
  (h1:0<=regs) (h2:regs<=9223372036854775807) (h0:block≠0) (hd:k7 regs dst≠0) :
  Calls Tryz.prog 59 #[.agg #[.slice g1 g2 g3,.slice f1 f2 f3,.string nm,Z params,Z regs,.slice b1 b2 b3,.slice a1 a2 a3],Z block,.agg #[Z dst,.slice p l c]] w fun e w'=>e = .returned (Z (X0 regs block cnt dst L))/\Below w.heap.size w w':=by
 have HV:Hid (X0 regs block cnt dst L=k7 regs dst):=by show _=_;unfold X0;rw[zQ h0,zZ hd]
 have hb0:((block:Int) == 0)=false:=by simp[h0]
 have hdb:(k7 regs dst == 0)=false:=by simp[hd]
 go_enter Tryz.func59,Tryz.ntmps59
 go_wp2_with (go_at_call 82;refine(Zm _ _ _ _ _ _ _ _ _ _ _ _ _ _ _ _ _ h1 h2).mono ?_;rintro e w3 ⟨rfl,hb3⟩)
 go_ret
 refine⟨by rw[HV.out];rfl,?_⟩;exact bZ

theorem phi_len (g1 f1 b1 p:Option Addr) (ab ao:Nat) (g2 g3 f2 f3 b2 b3 a2 a3 l c block cnt qc:Nat) (q:Option Addr) (nm:ByteArray) (params regs dst:Int) (L:List (Bool×Int)) (w:World)
  (h1:0<=regs) (h2:regs<=9223372036854775807) (h0:block≠0) (hd:k7 regs dst=0) (hl:l=L.length) (hne:l≠cnt) (hbl:block<a2) (_ha2:a2<=9223372036854775807) (_hl1:l<=9223372036854775807) (_hl2:cnt<=9223372036854775807) (hc:w.cell? (J ab (ao+block))=some (.slice q cnt qc)) :
  Calls Tryz.prog 59 #[.agg #[.slice g1 g2 g3,.slice f1 f2 f3,.string nm,Z params,Z regs,.slice b1 b2 b3,.slice (some (J ab ao)) a2 a3],Z block,.agg #[Z dst,.slice p l c]] w fun e w'=>e = .returned (Z (X0 regs block cnt dst L))/\Below w.heap.size w w':=by
 have HV:Hid (X0 regs block cnt dst L=9):=by show _=_;unfold X0;rw[zQ h0,zQ (by simp[hd]),zZ bO]
 have hb0:((block:Int) == 0)=false:=by simp[h0]
 have hdb:(k7 regs dst != 0)=false:=by simp[hd]
 have hn:((l:Int) != (cnt:Int))=true:=by simp;omega
 have hsz:=q9 hc;have hsz1:ab<w.heap.size+1:=by omega
 have hsz2:ab<w.heap.size+1+1:=by omega
 clear hd
 go_enter Tryz.func59,Tryz.ntmps59
 go_wp2_with (go_at_call 82;refine(Zm _ _ _ _ _ _ _ _ _ _ _ _ _ _ _ _ _ h1 h2).mono ?_;rintro e w3 ⟨rfl,hb3⟩;obtain⟨hc3,hf3,hz3⟩:=Z5 hb3;simp at hz3)
 have hz4:w.heap.size<w3.heap.size:=by omega
 have hz5:w.heap.size+1<w3.heap.size:=by omega
 go_quiet (fail)
 go_wp2
 go_ret
 refine⟨by rw[HV.out];rfl,?_⟩;exact bZ

theorem phi_vals (g1 f1 b1:Option Addr) (pb po ab ao:Nat) (g2 g3 f2 f3 b2 b3 a2 a3 c block cnt qc:Nat) (q:Option Addr) (nm:ByteArray) (params regs dst:Int) (L:List (Bool×Int)) (w:World)
  (h1:0<=regs) (h2:regs<=9223372036854775807) (h0:block≠0) (hd:k7 regs dst=0) (hne:L.length=cnt) (hbl:block<a2) (_ha2:a2<=9223372036854775807) (hl2:cnt<=9223372036854775807) (hc:w.cell? (J ab (ao+block))=some (.slice q cnt qc))
  (hL:∀i (h:i<L.length),w.cell? (J pb (po+i*2))=some (.bool L[i].1)/\w.cell? (J pb (po+i*2+1))=some (Z L[i].2)) (hpb:L≠[]->pb<w.heap.size) :
  Calls Tryz.prog 59 #[.agg #[.slice g1 g2 g3,.slice f1 f2 f3,.string nm,Z params,Z regs,.slice b1 b2 b3,.slice (some (J ab ao)) a2 a3],Z block,.agg #[Z dst,.slice (some (J pb po)) cnt c]] w fun e w'=>e = .returned (Z (X0 regs block cnt dst L))/\Below w.heap.size w w':=by
 have HV:Hid (X0 regs block cnt dst L=qD (L.map fun v=>xt regs v.1 v.2)):=by show _=_;unfold X0;rw[zQ h0,zQ (by simp[hd]),zQ bO];rfl
 have hb0:((block:Int) == 0)=false:=by simp[h0]
 have hdb:(k7 regs dst != 0)=false:=by simp[hd]
 have hsz:=q9 hc;have hsz1:ab<w.heap.size+1:=by omega
 have hsz2:ab<w.heap.size+1+1:=by omega
 have HL:Hid (∀i (h:i<L.length),w.cell? (J pb (po+i*2))=some (.bool L[i].1)/\w.cell? (J pb (po+i*2+1))=some (Z L[i].2)):=hL;have HN:Hid (L.length=cnt):=hne;have HP:Hid (L≠[]->pb<w.heap.size):=hpb;clear hd hL hne hpb
 go_enter Tryz.func59,Tryz.ntmps59
 go_wp2_with (go_at_call 82;refine(Zm _ _ _ _ _ _ _ _ _ _ _ _ _ _ _ _ _ h1 h2).mono ?_;rintro e w3 ⟨rfl,hb3⟩;obtain⟨hc3,hf3,hz3⟩:=Z5 hb3;simp at hz3)
 have hz4:w.heap.size<w3.heap.size:=by omega
 have hz5:w.heap.size+1<w3.heap.size:=by omega
 have HB0:Hid (Below w.heap.size w w3):=(((zI _ _).alloc (zK _) _).alloc bV _).trans (hb3.mono bW)
 go_quiet (fail)
 go_wp2
 go_loopw [33] (fun i wr=>∃k:Nat,k<=cnt/\i=Z k/\qD ((L.drop k).map fun v=>xt regs v.1 v.2)=qD (L.map fun v=>xt regs v.1 v.2)/\Below w3.heap.size w3 wr) (fun i _=>cnt - (intOf i).toNat)
 case atStart=>exact⟨0,by omega,rfl,rfl,by exact bZ⟩
 case round=>
  obtain⟨k,hk,rfl,hV,hB⟩:=hrel;have HF:Hid (qD ((L.drop k).map fun v=>xt regs v.1 v.2)=qD (L.map fun v=>xt regs v.1 v.2)):=hV;obtain⟨hcr,hfr,hzr⟩:=Z5 hB;have HB:Hid (Below w3.heap.size w3 wr):=hB;clear hV hB
  by_cases hlt:k<cnt
  rotate_left
  ·have HZ:Hid (qD (L.map fun v=>xt regs v.1 v.2)=0):=by
    have hk2:k=L.length:=(by have:=HN.out;omega);show _=_;rw[←HF.out,hk2];simp[qD]
   have HBw:Hid (Below w.heap.size w wr):=HB0.out.trans (HB.out.mono HB0.out.size);clear HF
   go_wp2
   go_ret
   refine⟨by rw[HV.out,HZ.out];rfl,?_⟩;exact HBw.out
  have hlt2:k<L.length:=by have:=HN.out;omega
  have hpb:pb<w.heap.size:=HP.out (by rintro rfl;simp at hlt2);have HBw:Hid (Below w.heap.size w wr):=HB0.out.trans (HB.out.mono HB0.out.size);have d0:=(HBw.out.cell (p:=(J pb (po+k*2))) hpb).trans (HL.out k hlt2).1;have d1:=(HBw.out.cell (p:=(J pb (po+k*2+1))) hpb).trans (HL.out k hlt2).2;have d2:pb<wr.heap.size:=by have:=HBw.out.size;omega
  have HD:Hid (qD ((L.drop k).map fun v=>xt regs v.1 v.2)=if xt regs L[k].1 L[k].2=0 then qD ((L.drop (k+1)).map fun v=>xt regs v.1 v.2)else xt regs L[k].1 L[k].2):=Zo (fun v:Bool×Int=>xt regs v.1 v.2) L k hlt2
  rw[HF.out]at HD;generalize L[k].1=r at d0 HD;generalize L[k].2=n at d1 HD;clear HF hlt2 hpb;have hz6:w.heap.size<wr.heap.size:=by omega
  have hz7:w.heap.size+1<wr.heap.size:=by omega
  by_cases hv:xt regs r n=0
  ·have hvb:(xt regs r n != 0)=false:=(by simp[hv]);have HD2:=HD.out;rw[zZ hv]at HD2;replace HD:Hid (qD (L.map fun v=>xt regs v.1 v.2)=qD ((L.drop (k+1)).map fun v=>xt regs v.1 v.2)):=HD2;clear HD2 hv
   go_wp2_with (go_at_call 81;refine(vP _ _ _ _ _ _ _ _ _ _ _ _ _ _ _ _ _ _ h1 h2).mono ?_;rintro e w4 ⟨rfl,hb4⟩)
   refine⟨⟨k+1,by omega,by go_num,HD.out.symm,?_⟩,by simp[intOf];omega⟩;exact HB.out.trans (yo bZ (hb4.mono (by have:=HB.out.size;simp;omega)))
  have hvb:(xt regs r n != 0)=true:=by simp[hv]
  have HD2:=HD.out;rw[zQ hv]at HD2;replace HD:Hid (qD (L.map fun v=>xt regs v.1 v.2)=xt regs r n):=HD2;clear HD2 hv
  go_wp2_with (go_at_call 81;refine(vP _ _ _ _ _ _ _ _ _ _ _ _ _ _ _ _ _ _ h1 h2).mono ?_;rintro e w4 ⟨rfl,hb4⟩)
  go_ret
  refine⟨by rw[HV.out,HD.out];rfl,?_⟩;exact HBw.out.trans (yo bZ (hb4.mono (by have:=HBw.out.size;simp;omega)))

theorem phi_nil (g1 f1 b1 p:Option Addr) (ab ao:Nat) (g2 g3 f2 f3 b2 b3 a2 a3 c block qc:Nat) (q:Option Addr) (nm:ByteArray) (params regs dst:Int) (w:World)
  (h1:0<=regs) (h2:regs<=9223372036854775807) (h0:block≠0) (hd:k7 regs dst=0) (hbl:block<a2) (_ha2:a2<=9223372036854775807) (hc:w.cell? (J ab (ao+block))=some (.slice q 0 qc)) :
  Calls Tryz.prog 59 #[.agg #[.slice g1 g2 g3,.slice f1 f2 f3,.string nm,Z params,Z regs,.slice b1 b2 b3,.slice (some (J ab ao)) a2 a3],Z block,.agg #[Z dst,.slice p 0 c]] w fun e w'=>e = .returned (Z (X0 regs block 0 dst []))/\Below w.heap.size w w':=by
 have HV:Hid (X0 regs block 0 dst []=0):=by show _=_;unfold X0;rw[zQ h0,zQ (by simp[hd]),zQ bV];rfl
 have hb0:((block:Int) == 0)=false:=by simp[h0]
 have hdb:(k7 regs dst != 0)=false:=by simp[hd]
 have hsz:=q9 hc;have hsz1:ab<w.heap.size+1:=by omega
 have hsz2:ab<w.heap.size+1+1:=by omega
 clear hd
 go_enter Tryz.func59,Tryz.ntmps59
 go_wp2_with (go_at_call 82;refine(Zm _ _ _ _ _ _ _ _ _ _ _ _ _ _ _ _ _ h1 h2).mono ?_;rintro e w3 ⟨rfl,hb3⟩;obtain⟨hc3,hf3,hz3⟩:=Z5 hb3;simp at hz3)
 have hz4:w.heap.size<w3.heap.size:=by omega
 have hz5:w.heap.size+1<w3.heap.size:=by omega
 have HB0:Hid (Below w.heap.size w w3):=(((zI _ _).alloc (zK _) _).alloc bV _).trans (hb3.mono bW)
 go_quiet (fail)
 go_wp2
 go_loop [33] (fun i=>i=Z 0) (fun _=>0)
 case atStart=>rfl
 case round=>
  subst hrel
  go_wp2
  go_ret
  refine⟨by rw[HV.out];rfl,?_⟩;exact below_drewN HB0.out _

theorem phi_any (g1 f1 b1 p:Option Addr) (ab ao:Nat) (g2 g3 f2 f3 b2 b3 a2 a3 c block cnt qc:Nat) (q:Option Addr) (nm:ByteArray) (params regs dst:Int) (L:List (Bool×Int)) (w:World)
  (h1:0<=regs) (h2:regs<=9223372036854775807) (hbl:block<a2) (ha2:a2<=9223372036854775807) (hl1:L.length<=9223372036854775807) (hl2:cnt<=9223372036854775807) (hc:w.cell? (J ab (ao+block))=some (.slice q cnt qc)) (hL:SliceAt w 2 kc p L) :
  Calls Tryz.prog 59 #[.agg #[.slice g1 g2 g3,.slice f1 f2 f3,.string nm,Z params,Z regs,.slice b1 b2 b3,.slice (some (J ab ao)) a2 a3],Z block,.agg #[Z dst,.slice p L.length c]] w fun e w'=>e = .returned (Z (X0 regs block cnt dst L))/\Below w.heap.size w w':=by
 by_cases h0:block=0
 ·subst h0;exact phi_0 _ _ _ _ _ _ _ _ _ _ _ _ _ _ _ _ _ _ _ _ _ _
 by_cases hd:k7 regs dst=0
 ·by_cases hne:L.length=cnt
  ·rcases hL with rfl|⟨b,o,rfl,h⟩
   ·subst hne;exact phi_nil _ _ _ _ _ _ _ _ _ _ _ _ _ _ _ _ _ _ _ _ _ _ _ h1 h2 h0 hd hbl ha2 hc
   rw[hne]
   have hx:∀i (h:i<L.length),w.cell? (J b (o+i*2))=some (.bool L[i].1)/\w.cell? (J b (o+i*2+1))=some (Z L[i].2):=fun i hi=>by
    obtain⟨cs,_,hc,⟨rfl,_⟩⟩:=h i hi;exact⟨hc 0 bO,hc 1 bO⟩
   refine phi_vals _ _ _ _ _ _ _ _ _ _ _ _ _ _ _ _ _ _ _ _ _ _ _ _ _ _ h1 h2 h0 hd hne hbl ha2 hl2 hc hx fun hn=>?_;have hp:0<L.length:=List.length_pos_iff.2 hn;exact q9 (hx 0 hp).1
  exact phi_len _ _ _ _ _ _ _ _ _ _ _ _ _ _ _ _ _ _ _ _ _ _ _ _ _ _ h1 h2 h0 hd rfl hne hbl ha2 hl1 hl2 hc
 exact phi_dst _ _ _ _ _ _ _ _ _ _ _ _ _ _ _ _ _ _ _ _ _ _ _ h1 h2 h0 hd

def Yg (F:FuncId) (caps:Array Value) (w:World) (e:Int):Prop:=
 ∀w1:World,Below w.heap.size w w1->Calls Tryz.prog F caps w1 fun x w2=>x = .returned (Z e)/\Below w1.heap.size w1 w2

theorem Ju (sb so sc:Nat) (B X C:Addr) (e1 e2 e3:Int) (w:World)
  (h0:w.cell? (J sb so)=some (.func (.func 85) #[] #[.pointer (some B),.pointer (some X)]))
  (h1:w.cell? (J sb (so+1))=some (.func (.func 86) #[] #[.pointer (some B),.pointer (some X)]))
  (h2:w.cell? (J sb (so+2))=some (.func (.func 87) #[] #[.pointer (some C),.pointer (some X),.pointer (some B)]))
  (a1:Yg 85 #[.pointer (some B),.pointer (some X)] w e1) (a2:Yg 86 #[.pointer (some B),.pointer (some X)] w e2) (a3:Yg 87 #[.pointer (some C),.pointer (some X),.pointer (some B)] w e3) :
  Calls Tryz.prog 84 #[.slice (some (J sb so)) 3 sc] w fun e w'=>e = .returned (Z (qD [e1,e2,e3]))/\Below w.heap.size w w':=by
 have A1:Hid (Yg 85 #[.pointer (some B),.pointer (some X)] w e1):=a1;have A2:Hid (Yg 86 #[.pointer (some B),.pointer (some X)] w e2):=a2;have A3:Hid (Yg 87 #[.pointer (some C),.pointer (some X),.pointer (some B)] w e3):=a3;have hsb:=q9 h0;clear a1 a2 a3
 go_enter Tryz.func84,Tryz.ntmps84
 go_wp2
 go_loopw [8] (fun i wr=>∃k:Nat,i=Z k/\(k=0\/(k=1/\e1=0)\/(k=2/\e1=0/\e2=0)\/(k=3/\e1=0/\e2=0/\e3=0))/\Below w.heap.size w wr) (fun i _=>3 - (intOf i).toNat)
 case atStart=>exact⟨0,rfl,.inl rfl,zI _ _⟩
 case round=>
  obtain⟨k,rfl,hk,hB⟩:=hrel;have HB:Hid (Below w.heap.size w wr):=hB;have g0:=(hB.cell (p:=(J sb so)) hsb).trans h0;have g1:=(hB.cell (p:=(J sb (so+1))) hsb).trans h1;have g2:=(hB.cell (p:=(J sb (so+2))) hsb).trans h2;clear hB;rcases hk with rfl|⟨rfl,z1⟩|⟨rfl,z1,z2⟩|⟨rfl,z1,z2,z3⟩
  ·by_cases hz:e1=0
   ·have hzb:(e1 != 0)=false:=(by simp[hz]);have HZ:Hid (e1=0):=hz;clear hz
    go_wp2_with fail
    refine(A1.out _ HB.out).mono ?_;rintro e w2 ⟨rfl,hb2⟩;have HB2:Hid (Below w.heap.size w w2):=HB.out.trans (hb2.mono HB.out.size);clear hb2
    go_wp2
    exact⟨⟨1,by go_num,.inr (.inl ⟨rfl,HZ.out⟩),HB2.out⟩,by simp[intOf]⟩
   have hzb:(e1 != 0)=true:=(by simp[hz]);have HV:Hid (qD [e1,e2,e3]=e1):=(by show _=_;simp[qD,hz]);clear hz
   go_wp2_with fail
   refine(A1.out _ HB.out).mono ?_;rintro e w2 ⟨rfl,hb2⟩;have HB2:Hid (Below w.heap.size w w2):=HB.out.trans (hb2.mono HB.out.size);clear hb2
   go_wp2
   go_ret
   exact⟨by rw[HV.out];rfl,HB2.out⟩
  ·by_cases hz:e2=0
   ·have hzb:(e2 != 0)=false:=(by simp[hz]);have HZ:Hid (e1=0/\e2=0):=⟨z1,hz⟩;clear hz z1
    go_wp2_with fail
    refine(A2.out _ HB.out).mono ?_;rintro e w2 ⟨rfl,hb2⟩;have HB2:Hid (Below w.heap.size w w2):=HB.out.trans (hb2.mono HB.out.size);clear hb2
    go_wp2
    exact⟨⟨2,by go_num,.inr (.inr (.inl ⟨rfl,HZ.out⟩)),HB2.out⟩,by simp[intOf]⟩
   have hzb:(e2 != 0)=true:=(by simp[hz]);have HV:Hid (qD [e1,e2,e3]=e2):=(by show _=_;simp[qD,hz,z1]);clear hz z1
   go_wp2_with fail
   refine(A2.out _ HB.out).mono ?_;rintro e w2 ⟨rfl,hb2⟩;have HB2:Hid (Below w.heap.size w w2):=HB.out.trans (hb2.mono HB.out.size);clear hb2
   go_wp2
   go_ret
   exact⟨by rw[HV.out];rfl,HB2.out⟩
  ·by_cases hz:e3=0
   ·have hzb:(e3 != 0)=false:=(by simp[hz]);have HZ:Hid (e1=0/\e2=0/\e3=0):=⟨z1,z2,hz⟩;clear hz z1 z2
    go_wp2_with fail
    refine(A3.out _ HB.out).mono ?_;rintro e w2 ⟨rfl,hb2⟩;have HB2:Hid (Below w.heap.size w w2):=HB.out.trans (hb2.mono HB.out.size);clear hb2
    go_wp2
    exact⟨⟨3,by go_num,.inr (.inr (.inr ⟨rfl,HZ.out⟩)),HB2.out⟩,by simp[intOf]⟩
   have hzb:(e3 != 0)=true:=(by simp[hz]);have HV:Hid (qD [e1,e2,e3]=e3):=(by show _=_;simp[qD,hz,z1,z2]);clear hz z1 z2
   go_wp2_with fail
   refine(A3.out _ HB.out).mono ?_;rintro e w2 ⟨rfl,hb2⟩;have HB2:Hid (Below w.heap.size w w2):=HB.out.trans (hb2.mono HB.out.size);clear hb2
   go_wp2
   go_ret
   exact⟨by rw[HV.out];rfl,HB2.out⟩
  have HV:Hid (qD [e1,e2,e3]=0):=by show _=_;simp[qD,z1,z2,z3]
  clear z1 z2 z3
  go_wp2
  go_ret
  exact⟨by rw[HV.out];rfl,HB.out⟩

def CkC (w:World) (B:Nat) (g1:Option Addr) (g2 g3:Nat) (f1:Option Addr) (f2 f3:Nat) (nm:ByteArray) (params regs:Int) (b1:Option Addr) (b2 b3:Nat) (a1:Option Addr) (a2 a3:Nat):Prop:=
 w.heap[B]?=some (.cells #[.slice g1 g2 g3,.slice f1 f2 f3,.string nm,Z params,Z regs,.slice b1 b2 b3,.slice a1 a2 a3] 67)
def InC (w:World) (X:Nat) (op dst an bn fn:Int) (ar br:Bool) (p:Option Addr) (l c:Nat):Prop:=
 w.heap[X]?=some (.cells #[Z op,Z dst,.bool ar,Z an,.bool br,Z bn,Z fn,.slice p l c] 51)

theorem xd {w:World} {b:Nat} {o:Obj} (h:w.heap[b]?=some o):b<w.heap.size:=by
 rcases yq b w.heap.size with g|g
 ·exact g
 rw[Array.getElem?_eq_none g]at h;cases h

theorem Jv {w:World} {B X:Nat} {g1:Option Addr} {g2 g3:Nat} {f1:Option Addr} {f2 f3:Nat} {nm:ByteArray} {params regs:Int} {b1:Option Addr} {b2 b3:Nat} {a1:Option Addr} {a2 a3:Nat} {op dst an bn fn:Int} {ar br:Bool} {p:Option Addr} {l c:Nat}
  (hB:CkC w B g1 g2 g3 f1 f2 f3 nm params regs b1 b2 b3 a1 a2 a3) (hX:InC w X op dst an bn fn ar br p l c) (h1:0<=regs) (h2:regs<=9223372036854775807) :
  Yg 85 #[.pointer (some (J B 0)),.pointer (some (J X 0))] w (xt regs ar an):=by
 intro w1 hb;obtain⟨c1,k1⟩:=blk (qg hb (xd hB) hB);obtain⟨c2,k2⟩:=blk (qg hb (xd hX) hX);clear hB hX
 go_enter Tryz.func85,Tryz.ntmps85
 go_wp2_with (go_at_call 81;refine(vP _ _ _ _ _ _ _ _ _ _ _ _ _ _ _ _ _ _ h1 h2).mono ?_;rintro e w3 ⟨rfl,hb3⟩)
 go_ret
 exact⟨rfl,hb3⟩

theorem Jw {w:World} {B X:Nat} {g1:Option Addr} {g2 g3:Nat} {f1:Option Addr} {f2 f3:Nat} {nm:ByteArray} {params regs:Int} {b1:Option Addr} {b2 b3:Nat} {a1:Option Addr} {a2 a3:Nat} {op dst an bn fn:Int} {ar br:Bool} {p:Option Addr} {l c:Nat}
  (hB:CkC w B g1 g2 g3 f1 f2 f3 nm params regs b1 b2 b3 a1 a2 a3) (hX:InC w X op dst an bn fn ar br p l c) (h1:0<=regs) (h2:regs<=9223372036854775807) :
  Yg 86 #[.pointer (some (J B 0)),.pointer (some (J X 0))] w (xt regs br bn):=by
 intro w1 hb;obtain⟨c1,k1⟩:=blk (qg hb (xd hB) hB);obtain⟨c2,k2⟩:=blk (qg hb (xd hX) hX);clear hB hX
 go_enter Tryz.func86,Tryz.ntmps86
 go_wp2_with (go_at_call 81;refine(vP _ _ _ _ _ _ _ _ _ _ _ _ _ _ _ _ _ _ h1 h2).mono ?_;rintro e w3 ⟨rfl,hb3⟩)
 go_ret
 exact⟨rfl,hb3⟩

def jf (regs:Int) (nf:Nat) (P:Nat->Int) (call:Bool) (fn:Int) (L:List (Bool×Int)):Int:=
 if call=false then 0
 else if ¬(0<=fn/\fn<nf)then 3
 else if(L.length:Int)≠P fn.toNat then 9
 else Vt regs L

theorem ins3_no {w:World} {B X C:Nat} {g1:Option Addr} {g2 g3:Nat} {f1:Option Addr} {f2 f3:Nat} {nm:ByteArray} {params regs:Int} {b1:Option Addr} {b2 b3:Nat} {a1:Option Addr} {a2 a3:Nat} {op dst an bn fn:Int} {ar br:Bool} {p:Option Addr} {l c:Nat} {call:Bool} (P:Nat->Int) (L:List (Bool×Int))
  (hB:CkC w B g1 g2 g3 f1 f2 f3 nm params regs b1 b2 b3 a1 a2 a3) (hX:InC w X op dst an bn fn ar br p l c) (hC:w.cell? (J C 0)=some (.bool call)) (hf:f2<=9223372036854775807)
  (h:call=false\/¬(0<=fn/\fn<f2)) :
  Yg 87 #[.pointer (some (J C 0)),.pointer (some (J X 0)),.pointer (some (J B 0))] w (jf regs f2 P call fn L):=by
 intro w1 hb;obtain⟨c1,k1⟩:=blk (qg hb (xd hB) hB);obtain⟨c2,k2⟩:=blk (qg hb (xd hX) hX);have c3:=(hb.cell (p:=(J C 0)) (q9 hC)).trans hC;clear hB hX hC;cases call
 ·go_enter Tryz.func87,Tryz.ntmps87
  go_wp2
  go_ret
  exact⟨rfl,zI _ _⟩
 have hh:¬(0<=fn/\fn<f2):=by simpa using h
 have hw:xT fn 0 ((f2:Int) - 1)=false:=by simp only[xT,xA];omega
 have HV:Hid (jf regs f2 P true fn L=3):=by show _=_;unfold jf;rw[zQ (by decide),zZ hh]
 clear h hh
 go_enter Tryz.func87,Tryz.ntmps87
 go_wp2_with (go_at_call 26;refine(qJ _ _ _ _).mono ?_;rintro e w1 ⟨rfl,rfl⟩)
 go_ret
 exact⟨by rw[HV.out];rfl,zI _ _⟩

theorem ins3_len {w:World} {B X C fb fo:Nat} {g1:Option Addr} {g2 g3:Nat} {f2 f3:Nat} {nm:ByteArray} {params regs:Int} {b1:Option Addr} {b2 b3:Nat} {a1:Option Addr} {a2 a3:Nat} {op dst an bn:Int} {fn:Nat} {ar br:Bool} {p:Option Addr} {l c:Nat} (P:Nat->Int) (L:List (Bool×Int))
  (hB:CkC w B g1 g2 g3 (some (J fb fo)) f2 f3 nm params regs b1 b2 b3 a1 a2 a3) (hX:InC w X op dst an bn fn ar br p l c) (hC:w.cell? (J C 0)=some (.bool true)) (hf:f2<=9223372036854775807)
  (h:fn<f2) (hP:w.cell? (J fb (fo+fn*4+1))=some (Z (P fn))) (hl:l=L.length) (_hl2:l<=9223372036854775807) (hne:(l:Int)≠P fn) :
  Yg 87 #[.pointer (some (J C 0)),.pointer (some (J X 0)),.pointer (some (J B 0))] w (jf regs f2 P true fn L):=by
 intro w1 hb;obtain⟨c1,k1⟩:=blk (qg hb (xd hB) hB);obtain⟨c2,k2⟩:=blk (qg hb (xd hX) hX);have c3:=(hb.cell (p:=(J C 0)) (q9 hC)).trans hC;have c4:=(hb.cell (p:=(J fb (fo+fn*4+1))) (q9 hP)).trans hP;clear hB hX hC hP;have hw:xT fn 0 ((f2:Int) - 1)=true:=by simp only[xT,yY];omega
 have HV:Hid (jf regs f2 P true fn L=9):=by
  show _=_;unfold jf;rw[zQ (by decide),zQ bO,zZ];rw[←hl];simpa using hne
 have hnb:((l:Int) != P fn)=true:=by simpa using hne
 clear hne hl
 go_enter Tryz.func87,Tryz.ntmps87
 go_wp2_with (go_at_call 26;refine(qJ _ _ _ _).mono ?_;rintro e w1 ⟨rfl,rfl⟩)
 go_quiet (fail)
 go_wp2
 go_ret
 refine⟨by rw[HV.out];rfl,?_⟩;exact bZ

theorem ins3_yes {w:World} {B X C fb fo pb po:Nat} {g1:Option Addr} {g2 g3:Nat} {f2 f3:Nat} {nm:ByteArray} {params regs:Int} {b1:Option Addr} {b2 b3:Nat} {a1:Option Addr} {a2 a3:Nat} {op dst an bn:Int} {fn:Nat} {ar br:Bool} {l c:Nat} (P:Nat->Int) (L:List (Bool×Int))
  (hB:CkC w B g1 g2 g3 (some (J fb fo)) f2 f3 nm params regs b1 b2 b3 a1 a2 a3) (hX:InC w X op dst an bn fn ar br (some (J pb po)) l c) (hC:w.cell? (J C 0)=some (.bool true)) (hf:f2<=9223372036854775807) (h1:0<=regs) (h2:regs<=9223372036854775807)
  (h:fn<f2) (hP:w.cell? (J fb (fo+fn*4+1))=some (Z (P fn))) (hl:L.length=l) (hl2:l<=9223372036854775807) (hne:(l:Int)=P fn)
  (hL:∀i (h:i<L.length),w.cell? (J pb (po+i*2))=some (.bool L[i].1)/\w.cell? (J pb (po+i*2+1))=some (Z L[i].2)) :
  Yg 87 #[.pointer (some (J C 0)),.pointer (some (J X 0)),.pointer (some (J B 0))] w (jf regs f2 P true fn L):=by
 intro w1 hb
 have hL1:∀i (h:i<L.length),w1.cell? (J pb (po+i*2))=some (.bool L[i].1)/\w1.cell? (J pb (po+i*2+1))=some (Z L[i].2):=fun i hi=>
  ⟨(hb.cell (p:=(J pb (po+i*2))) (q9 (hL i hi).1)).trans (hL i hi).1,(hb.cell (p:=(J pb (po+i*2+1))) (q9 (hL i hi).1)).trans (hL i hi).2⟩
 obtain⟨c1,k1⟩:=blk (qg hb (xd hB) hB);obtain⟨c2,k2⟩:=blk (qg hb (xd hX) hX);have c3:=(hb.cell (p:=(J C 0)) (q9 hC)).trans hC;have c4:=(hb.cell (p:=(J fb (fo+fn*4+1))) (q9 hP)).trans hP;have sB:B<w1.heap.size:=by have:=xd hB;have:=hb.size;omega
 clear hB hX hC hP hL;have HL:Hid (∀i (h:i<L.length),w1.cell? (J pb (po+i*2))=some (.bool L[i].1)/\w1.cell? (J pb (po+i*2+1))=some (Z L[i].2)):=hL1;have HN:Hid (L.length=l):=hl;have hw:xT fn 0 ((f2:Int) - 1)=true:=by simp only[xT,yY];omega
 have HV:Hid (jf regs f2 P true fn L=qD (L.map fun v=>xt regs v.1 v.2)):=by
  show _=_;unfold jf;rw[zQ (by decide),zQ bO,zQ]
  ·rfl
  rw[hl];simpa using hne
 have hnb:((l:Int) != P fn)=false:=by simpa using hne
 clear hne hl hL1;clear hb
 go_enter Tryz.func87,Tryz.ntmps87
 go_wp2_with (go_at_call 26;refine(qJ _ _ _ _).mono ?_;rintro e w1 ⟨rfl,rfl⟩)
 go_quiet (fail)
 go_wp2
 go_loopw [36] (fun i wr=>∃k:Nat,k<=l/\i=Z k/\qD ((L.drop k).map fun v=>xt regs v.1 v.2)=qD (L.map fun v=>xt regs v.1 v.2)/\Below w1.heap.size w1 wr) (fun i _=>l - (intOf i).toNat)
 case atStart=>exact⟨0,by omega,rfl,rfl,by exact bZ⟩
 case round=>
  obtain⟨k,hk,rfl,hV,hB⟩:=hrel;have HF:Hid (qD ((L.drop k).map fun v=>xt regs v.1 v.2)=qD (L.map fun v=>xt regs v.1 v.2)):=hV;obtain⟨hcr,hfr,hzr⟩:=Z5 hB;have HB:Hid (Below w1.heap.size w1 wr):=hB;clear hV hB
  by_cases hlt:k<l
  rotate_left
  ·have HZ:Hid (qD (L.map fun v=>xt regs v.1 v.2)=0):=by
    have hk2:k=L.length:=(by have:=HN.out;omega);show _=_;rw[←HF.out,hk2];simp[qD]
   clear HF
   go_wp2
   go_ret
   refine⟨by rw[HV.out,HZ.out];rfl,?_⟩;exact HB.out
  have hlt2:k<L.length:=by have:=HN.out;omega
  have d0:=(HB.out.cell (p:=(J pb (po+k*2))) (q9 (HL.out k hlt2).1)).trans (HL.out k hlt2).1;have d1:=(HB.out.cell (p:=(J pb (po+k*2+1))) (q9 (HL.out k hlt2).2)).trans (HL.out k hlt2).2;have d2:pb<wr.heap.size:=by have:=q9 (HL.out k hlt2).1;omega
  have HD:Hid (qD ((L.drop k).map fun v=>xt regs v.1 v.2)=if xt regs L[k].1 L[k].2=0 then qD ((L.drop (k+1)).map fun v=>xt regs v.1 v.2)else xt regs L[k].1 L[k].2):=Zo (fun v:Bool×Int=>xt regs v.1 v.2) L k hlt2
  rw[HF.out]at HD;generalize L[k].1=r at d0 HD;generalize L[k].2=n at d1 HD;clear HF hlt2;have hz6:B<wr.heap.size:=by omega
  by_cases hv:xt regs r n=0
  ·have hvb:(xt regs r n != 0)=false:=(by simp[hv]);have HD2:=HD.out;rw[zZ hv]at HD2;replace HD:Hid (qD (L.map fun v=>xt regs v.1 v.2)=qD ((L.drop (k+1)).map fun v=>xt regs v.1 v.2)):=HD2;clear HD2 hv
   go_wp2_with (go_at_call 81;refine(vP _ _ _ _ _ _ _ _ _ _ _ _ _ _ _ _ _ _ h1 h2).mono ?_;rintro e w4 ⟨rfl,hb4⟩)
   refine⟨⟨k+1,by omega,by go_num,HD.out.symm,?_⟩,by simp[intOf];omega⟩;exact HB.out.trans (yo bZ (hb4.mono (by have:=HB.out.size;simp;omega)))
  have hvb:(xt regs r n != 0)=true:=by simp[hv]
  have HD2:=HD.out;rw[zQ hv]at HD2;replace HD:Hid (qD (L.map fun v=>xt regs v.1 v.2)=xt regs r n):=HD2;clear HD2 hv
  go_wp2_with (go_at_call 81;refine(vP _ _ _ _ _ _ _ _ _ _ _ _ _ _ _ _ _ _ h1 h2).mono ?_;rintro e w4 ⟨rfl,hb4⟩)
  go_ret
  refine⟨by rw[HV.out,HD.out];rfl,?_⟩;exact HB.out.trans (yo bZ (hb4.mono (by have:=HB.out.size;simp;omega)))

theorem ins3_nil {w:World} {B X C fb fo:Nat} {g1:Option Addr} {g2 g3:Nat} {f2 f3:Nat} {nm:ByteArray} {params regs:Int} {b1:Option Addr} {b2 b3:Nat} {a1:Option Addr} {a2 a3:Nat} {op dst an bn:Int} {fn:Nat} {ar br:Bool} {p:Option Addr} {c:Nat} (P:Nat->Int)
  (hB:CkC w B g1 g2 g3 (some (J fb fo)) f2 f3 nm params regs b1 b2 b3 a1 a2 a3) (hX:InC w X op dst an bn fn ar br p 0 c) (hC:w.cell? (J C 0)=some (.bool true)) (hf:f2<=9223372036854775807)
  (h:fn<f2) (hP:w.cell? (J fb (fo+fn*4+1))=some (Z (P fn))) (hne:0=P fn) :
  Yg 87 #[.pointer (some (J C 0)),.pointer (some (J X 0)),.pointer (some (J B 0))] w (jf regs f2 P true fn []):=by
 intro w1 hb;obtain⟨c1,k1⟩:=blk (qg hb (xd hB) hB);obtain⟨c2,k2⟩:=blk (qg hb (xd hX) hX);have c3:=(hb.cell (p:=(J C 0)) (q9 hC)).trans hC;have c4:=(hb.cell (p:=(J fb (fo+fn*4+1))) (q9 hP)).trans hP;rw[←hne]at c4;clear hB hX hC hP;have hw:xT fn 0 ((f2:Int) - 1)=true:=by simp only[xT,yY];omega
 have HV:Hid (jf regs f2 P true fn []=0):=by
  show _=_;unfold jf;rw[zQ (by decide),zQ bO,zQ]
  ·rfl
  simpa using hne
 clear hne
 go_enter Tryz.func87,Tryz.ntmps87
 go_wp2_with (go_at_call 26;refine(qJ _ _ _ _).mono ?_;rintro e w1 ⟨rfl,rfl⟩)
 go_quiet (fail)
 go_wp2
 go_loop [36] (fun i=>i=Z 0) (fun _=>0)
 case atStart=>rfl
 case round=>
  subst hrel
  go_wp2
  go_ret
  refine⟨by rw[HV.out];rfl,?_⟩;exact bZ

theorem Jy {w:World} {B X C:Nat} {g1:Option Addr} {g2 g3:Nat} {f1:Option Addr} {f2 f3:Nat} {nm:ByteArray} {params regs:Int} {b1:Option Addr} {b2 b3:Nat} {a1:Option Addr} {a2 a3:Nat} {op dst an bn fn:Int} {ar br:Bool} {p:Option Addr} {c:Nat} {call:Bool} (P:Nat->Int) (L:List (Bool×Int))
  (hB:CkC w B g1 g2 g3 f1 f2 f3 nm params regs b1 b2 b3 a1 a2 a3) (hX:InC w X op dst an bn fn ar br p L.length c) (hC:w.cell? (J C 0)=some (.bool call)) (hf:f2<=9223372036854775807) (h1:0<=regs) (h2:regs<=9223372036854775807)
  (hP:f2=0\/∃fb fo,f1=some (J fb fo)/\∀i,i<f2->w.cell? (J fb (fo+i*4+1))=some (Z (P i))) (hl2:L.length<=9223372036854775807) (hL:SliceAt w 2 kc p L) :
  Yg 87 #[.pointer (some (J C 0)),.pointer (some (J X 0)),.pointer (some (J B 0))] w (jf regs f2 P call fn L):=by
 by_cases h:call=false\/¬(0<=fn/\fn<f2)
 ·exact ins3_no P L hB hX hC hf h
 obtain⟨hc,hfn⟩:call=true/\(0<=fn/\fn<f2):=by
  cases call
  ·exact absurd (.inl rfl) h
  exact⟨rfl,Decidable.byContradiction fun g=>h (.inr g)⟩
 subst hc;obtain⟨k,rfl⟩:=Int.eq_ofNat_of_zero_le hfn.1;have hk:k<f2:=by omega
 rcases hP with h0|⟨fb,fo,rfl,hP⟩
 ·omega
 by_cases hne:(L.length:Int)=P k
 ·rcases hL with rfl|⟨b,o,rfl,hx⟩
  ·exact ins3_nil P hB hX hC hf hk (hP k hk) hne
  refine ins3_yes P L hB hX hC hf h1 h2 hk (hP k hk) rfl hl2 hne fun i hi=>?_;obtain⟨cs,_,hc,⟨rfl,_⟩⟩:=hx i hi;exact⟨hc 0 bO,hc 1 bO⟩
 exact ins3_len P L hB hX hC hf hk (hP k hk) rfl hl2 hne
end Go.Proofs.YtgjjhadbjmcnpaaGreatDoor
