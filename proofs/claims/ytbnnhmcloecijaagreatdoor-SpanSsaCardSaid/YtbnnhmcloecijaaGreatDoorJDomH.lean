/-
  The contract of graph.Post: blocks that are reached, as they are left.
-/
import Derived.RangeFuncFrom
import Derived.Test.YtbnnhmcloecijaaGreatDoorJCloN
import Derived.Maps.OwnIn
import Derived.Laws.EntriesVeiled
set_option maxRecDepth 100000
set_option maxHeartbeats 16000000
namespace Go.Proofs.YtbnnhmcloecijaaGreatDoor
open Go.RowKit Go.Shelf
attribute [local go_sem] Oper.semAt_some

structure BackSh (X:Nat) (p:Option Addr) (c:Nat) (xs:List Int) (W:World):Prop where
 box:W.cell? ⟨X,0,none⟩=some (.slice p xs.length c)
 el:∀i (h:i<xs.length),∃b o,p=some ⟨b,o,none⟩∧W.cell? ⟨b,o+i,none⟩=some (.int .i64 xs[i])
theorem BackSh.other {X c:Nat} {p:Option Addr} {xs:List Int} {W W':World} (h:BackSh X p c xs W) (hk:∀b o v,W.cell? ⟨b,o,none⟩=some v→(b=X∨∃o,p=some ⟨b,o,none⟩)→W'.cell? ⟨b,o,none⟩=some v):BackSh X p c xs W':=
 ⟨hk _ _ _ h.box (.inl rfl),fun i hi=>by
  obtain ⟨b,o,hp,hc⟩:=h.el i hi
  exact ⟨b,o,hp,hk _ _ _ hc (.inr ⟨o,hp⟩)⟩⟩
theorem BackSh.putObj {X c:Nat} {p:Option Addr} {xs:List Int} {W:World} (h:BackSh X p c xs W) {l:Nat} {o:Obj} (o':Obj) (hl:W.heap[l]?=some o) (ho:o.isCells=false):BackSh X p c xs (W.putObj l o'):=
 h.other fun b o v hc _=>by
  have hne:b≠l:=jb hl ho hc
  exact (zN (a:=⟨b,o,none⟩) (World.putObj_heap_other (by omega))).trans hc
theorem own_back {X c:Nat} {p:Option Addr} {xs:List Int} {B:Nat}:OwnFrom B (fun (_:Nat) W=>BackSh X p c xs W):=fun s W W' row hs hg hr=>
 hs.other fun b o v hc _=>(zN (a:=⟨b,o,none⟩) (hg.block b (qd hc) (fun e=>by
  obtain ⟨_,x,hx,hn⟩:=hr b e.symm
  exact jb hx hn hc rfl))).trans hc

def Y9 (xs:List Int) (i:Nat):Array Value:=#[.int .i64 ((xs.length - 1 - i:Nat):Int),.int .i64 (xs.getD (xs.length - 1 - i) 0)]

theorem Vg (p:Option Addr) (n c:Nat) (w:World) :
  Calls Tryz.prog 103 #[.slice p n c] w fun e w'=>e = .returned (.func (.func 140) #[] #[.pointer (some ⟨w.heap.size,0,none⟩)])∧w'=w.alloc (.cells #[.slice p n c] 41):=by
 go_enter Tryz.func103,Tryz.ntmps103
 go_wp2
 go_ret
 exact ⟨rfl,rfl⟩

theorem back_at (F:Fence) (n:Nat) (hF:F.fn 140) (hro:F.round=none) (hn:1≤n) (X c:Nat) (p:Option Addr) (xs:List Int) (w:World) (hl:xs.length≤140737488355328) (hsh:BackSh X p c xs w) :
  SeqAt F n Tryz.prog 140 #[.pointer (some ⟨X,0,none⟩)] (Y9 xs) xs.length (fun W W'=>BackSh X p c xs W→BackSh X p c xs W') w:=by
 intro l J Jx W hW _ _ hY h0
 have HS:=q7 (hsh.other (W':=W) fun b o v hc _=>(hW.cell (p:=⟨b,o,none⟩) (qd hc)).trans hc)
 have HY:=q7 hY
 clear hsh hY hW
 refine callsIn_of_wp Tryz.func140 rfl hF ?_ hro
 simp only [Tryz.ntmps140,List.size_toArray,yi,List.length_nil,Nat.reduceAdd,Nat.reduceSub,Array.replicate_succ,Array.replicate_zero,List.push_toArray,List.append_toArray,List.nil_append,List.cons_append]
 have cb:=HS.out.box
 gi_wp2
 gi_loopw [3] (fun i wr=>∃m:Nat,m≤xs.length∧i = .int .i64 ((xs.length:Int) - 1 - m)∧J m wr∧BackSh X p c xs wr) (fun i _=>(intOf i+1).toNat)
 case atStart=>exact ⟨0,by omega,by simp,h0,HS.out⟩
 case round=>
  clear cb
  obtain ⟨m,hm,rfl,hJ,hK⟩:=hrel
  have cb:=hK.box
  have HK:=q7 hK
  clear hK
  by_cases hlt:m<xs.length
  rotate_left
  ·obtain rfl:m=xs.length:=by omega
   gi_wp2
   go_end0
   exact ⟨⟨_,rfl⟩,.inl hJ⟩
  have hk:xs.length - 1 - m<xs.length:=by omega
  obtain ⟨b,o,rfl,e1⟩:=HK.out.el _ hk
  have hj:(xs.length:Int) - 1 - m=((xs.length - 1 - m:Nat):Int):=by omega
  obtain ⟨fn,tmps,assign,body,hy,hR⟩:=HY.out _ wr hlt hJ
  have he:Y9 xs m=#[.int .i64 ((xs.length - 1 - m:Nat):Int),.int .i64 (xs[xs.length - 1 - m])]:=by
   unfold Y9
   rw [yO,zj hk]
   rfl
  rw [he] at hy
  rw [hj]
  generalize hkk:xs.length - 1 - m=k at *
  have HKK:=q7 hkk
  have HR:=q7 hR
  clear hR he hj hkk
  gi_wp2
  refine HR.out.mono ?_
  rintro e W3 (⟨rfl,hJ3,hk3⟩|⟨rfl,hJx3⟩)
  ·have HK3:=q7 (hk3 HK.out)
   clear hk3
   gi_wp2
   go_roundw
   case rel=>exact ⟨m+1,by omega,by have:=HKK.out;congr 1;omega,hJ3,HK3.out⟩
   case measure=>simp [intOf]
  gi_wp2
  refine zk (results_none rfl _ _ _) rfl ?_
  exact ⟨⟨_,rfl⟩,.inr ⟨_,hlt,hJx3⟩⟩
end Go.Proofs.YtbnnhmcloecijaaGreatDoor
namespace Go.Proofs.YtbnnhmcloecijaaGreatDoor
open Go.RowKit Go.Shelf

def Vh (Ds:List Nat):List Deferred:=Ds.map fun D=>{ target:=.collected D,args:=#[] }
theorem vk {F:Fence} {n:Nat} {P:Program} {fn:Func} {tmps:Array Value} {R:Ending→World→Prop} (B:Nat):∀(Ds:List Nat) (w:World),Ds.Nodup→(∀D∈Ds,B≤D∧w.heap[D]?=some (.deferred (some [])))→
  (∀w',w'.os=w.os→w'.tape=w.tape→w'.output=w.output→w.heap.size≤w'.heap.size→(∀k,k∉Ds→w'.heap[k]?=w.heap[k]?)→∃v,(results fn tmps).run P w' = .ok v w'∧R (.returned v) w')→LeavesInM F n P fn tmps R (Vh Ds) .returning w
 | [],w,_,_,h=>h w rfl rfl rfl (zK _) (fun _ _=>rfl)
 | D::Ds,w,hn,hD,h=>by
  obtain ⟨hn1,hn2⟩:=List.nodup_cons.1 hn
  refine ⟨by simp,.inl ⟨D,_,rfl,run_takeDeferred (hD D yg).2,?_⟩⟩
  refine vk B Ds _ hn2 (fun E hE=>?_) (fun w' h1 h2 h3 h4 h5=>?_)
  ·obtain ⟨a,b⟩:=hD E (yc _ hE)
   exact ⟨a,(World.putObj_heap_other (fun e=>hn1 (by rw [←e];exact hE))).trans b⟩
  refine h w' h1 h2 h3 (by simpa using h4) (fun k hk=>?_)
  rw [h5 k (fun hh=>hk (yc _ hh))]
  exact World.putObj_heap_other (fun e=>hk (by rw [e];exact yg))
attribute [local go_sem] Oper.semAt_some

theorem infoInt3:(Tryz.prog.info? 3).map (fun i=>(i.zero,i.size,i.bytes))=some (some (.int .i64 0),1,8):=by kernel_rfl
theorem mh:Tryz.prog.underlying 41=some (.slice 3):=by kernel_rfl
end Go.Proofs.YtbnnhmcloecijaaGreatDoor
namespace Go.Proofs.YtbnnhmcloecijaaGreatDoor
open Go.RowKit Go.Lib

theorem ChkOk.ins {u:UniL} (h:ChkOk u) {k:Nat} (hk:k<u.funcs.length):∀i∈allIns u.funcs[k],YT u u.funcs[k] i=0:=by
 intro i hi
 have hb:=h.body k hk
 unfold QP at hb
 rw [zj hk] at hb
 simp only at hb
 unfold ki at hb
 split at hb
 ·obtain ⟨b,hbm,him⟩:=yU.1 hi
  obtain ⟨j,hj,rfl⟩:=yX hbm
  have hbj:=zm hb (K6 u u.funcs[k] j) (yD.2 ⟨j,yR.2 hj,rfl⟩)
  unfold K6 at hbj
  rw [zj hj] at hbj
  simp only at hbj
  unfold blkE at hbj
  split at hbj
  ·exact zm hbj _ (yD.2 ⟨i,him,rfl⟩)
  rename_i hne
  exact absurd hbj hne
 rename_i hne
 exact absurd hb hne
end Go.Proofs.YtbnnhmcloecijaaGreatDoor
namespace Go.Proofs.YtbnnhmcloecijaaGreatDoor

def j4 (n:Nat) (had:Nat→Bool):Nat:=((List.range n).filter fun j=>!had j).length
theorem Ql {p q:Nat→Bool}:∀(l:List Nat),(∀x∈l,p x=true→q x=true)→(l.filter p).length≤(l.filter q).length
 | [],_=>by simp
 | a::l,h=>by
  have ih:=Ql l (fun x hx=>h x (yc _ hx))
  have ha:=h a yg
  by_cases hp:p a=true
  ·rw [List.filter_cons_of_pos hp,List.filter_cons_of_pos (ha hp)]
   simpa using ih
  rw [List.filter_cons_of_neg hp]
  by_cases hq:q a=true
  ·rw [List.filter_cons_of_pos hq];simp;omega
  rw [List.filter_cons_of_neg hq];exact ih
theorem ZZ {p q:Nat→Bool} {k:Nat}:∀(l:List Nat),(∀x∈l,p x=true→q x=true)→k∈l→p k=false→q k=true→(l.filter p).length<(l.filter q).length
 | [],_,h,_,_=>by cases h
 | a::l,h,hk,h1,h2=>by
  have ha:=h a yg
  rcases yC.1 hk with e|hk2
  ·subst e
   have ih:=Ql l (fun x hx=>h x (yc _ hx))
   rw [List.filter_cons_of_neg (by simp [h1]),List.filter_cons_of_pos h2]
   simp;omega
  have ih:=ZZ l (fun x hx=>h x (yc _ hx)) hk2 h1 h2
  by_cases hp:p a=true
  ·rw [List.filter_cons_of_pos hp,List.filter_cons_of_pos (ha hp)]
   simpa using ih
  rw [List.filter_cons_of_neg hp]
  by_cases hq:q a=true
  ·rw [List.filter_cons_of_pos hq];simp;omega
  rw [List.filter_cons_of_neg hq];exact ih
theorem QW {n:Nat} {p q:Nat→Bool} (h:∀j,p j=true→q j=true):j4 n q≤j4 n p:=
 Ql _ fun x _ hx=>by
  cases hp:p x with
  | false=>rfl
  | true=>rw [h x hp] at hx;cases hx
theorem mi {n k:Nat} {p q:Nat→Bool} (h:∀j,p j=true→q j=true) (hk:k<n) (h1:p k=false) (h2:q k=true):j4 n q<j4 n p:=by
 refine ZZ (k:=k) _ (fun x _ hx=>?_) (yR.2 hk) (by simp [h2]) (by simp [h1])
 cases hp:p x with
 | false=>rfl
 | true=>rw [h x hp] at hx;cases hx

end Go.Proofs.YtbnnhmcloecijaaGreatDoor
namespace Go.Proofs.YtbnnhmcloecijaaGreatDoor
open Go.RowKit Go.Shelf

abbrev PostS:=(Nat→Bool)×List Int
def xD (rec:Nat→PostS→PostS) (s:PostS) (t:Int):PostS:=if s.1 t.toNat then s else rec t.toNat s
def xL (rec:Nat→PostS→PostS) (xs:List Int) (s:PostS):Nat→PostS
 | 0=>s
 | i+1=>xD rec (xL rec xs s i) (xs.getD (xs.length - 1 - i) 0)
def xZ (b:Nat) (s:PostS):PostS:=(fun j=>if j=b then true else s.1 j,s.2)
def vQ (tos:Nat→List Int):Nat→Nat→PostS→PostS
 | 0,_,s=>s
 | c+1,b,s=>((xL (vQ tos c) (tos b) (xZ b s) (tos b).length).1,(xL (vQ tos c) (tos b) (xZ b s) (tos b).length).2++[(b:Int)])

theorem Jo {b:Nat} {s:PostS} {j:Nat} (h:s.1 j=true):(xZ b s).1 j=true:=by
 show (if j=b then true else s.1 j)=true
 split
 ·rfl
 exact h
theorem vK {n b:Nat} {s:PostS} (hb:b<n) (h:s.1 b=false):j4 n (xZ b s).1<j4 n s.1:=
 mi (fun _=>Jo) hb h (by show (if b=b then true else _)=true;simp)

structure VisOk (n:Nat) (s s':PostS):Prop where
 up:∀j,s.1 j=true→s'.1 j=true
 many:s'.2.length+j4 n s'.1≤s.2.length+j4 n s.1
theorem VisOk.refl (n:Nat) (s:PostS):VisOk n s s:=⟨fun _ h=>h,zK _⟩
theorem VisOk.trans {n:Nat} {a b c:PostS} (h:VisOk n a b) (k:VisOk n b c):VisOk n a c:=⟨fun j e=>k.up j (h.up j e),yv k.many h.many⟩

theorem Zz {n:Nat} {rec:Nat→PostS→PostS} {xs:List Int} (hx:∀x∈xs,0≤x∧x<(n:Int)) {s:PostS} (h:∀b s',b<n→s'.1 b=false→VisOk n s s'→VisOk n s' (rec b s')):∀i,i≤xs.length→VisOk n s (xL rec xs s i)
 | 0,_=>VisOk.refl _ _
 | i+1,hi=>by
  have ih:=Zz hx h i (by omega)
  show VisOk n s (xD rec (xL rec xs s i) (xs.getD (xs.length - 1 - i) 0))
  unfold xD
  have hk:xs.length - 1 - i<xs.length:=by omega
  have hm:=hx _ (zP hk)
  rw [yO,zj hk]
  cases e:(xL rec xs s i).1 (xs[xs.length - 1 - i]).toNat
  ·rw [show ((some xs[xs.length - 1 - i]).getD 0)=xs[xs.length - 1 - i] from rfl,e]
   exact ih.trans (h _ _ (by omega) e ih)
  rw [show ((some xs[xs.length - 1 - i]).getD 0)=xs[xs.length - 1 - i] from rfl,e]
  exact ih
theorem Kn {n:Nat} {tos:Nat→List Int} (hT:∀b,b<n→∀x∈tos b,0≤x∧x<(n:Int)):∀(c b:Nat) (s:PostS),b<n→s.1 b=false→VisOk n s (vQ tos c b s)
 | 0,_,s,_,_=>VisOk.refl n s
 | c+1,b,s,hb,h=>by
  have h1:=vK (n:=n) hb h
  have h2:=Zz (n:=n) (rec:=vQ tos c) (xs:=tos b) (hT b hb) (s:=xZ b s) (fun b' s' hb' h' _=>Kn hT c b' s' hb' h') (tos b).length (zK _)
  refine ⟨fun j e=>h2.up j (Jo e),?_⟩
  have h3:=h2.many
  have h4:(xZ b s).2=s.2:=rfl
  rw [h4] at h3
  show ((xL (vQ tos c) (tos b) (xZ b s) (tos b).length).2++[(b:Int)]).length+_≤_
  rw [yN]
  show _+1+j4 n (xL (vQ tos c) (tos b) (xZ b s) (tos b).length).1≤_
  omega

structure PostM (W:World) (V L n B:Nat) (tb ti:TypeId) (tl:TypeId) (lv:Value) (s:PostS):Prop where
 seen:W.rowIs V tb n (fun j=>.bool (s.1 j))
 var:W.heap[L]?=some (.cells #[lv] tl (0,0))
 own:W.ownsRow B ti 1 lv s.2.length (s.2.map (.int .i64))
structure PostI (W0:World) (lv0:Value) (V L n B:Nat) (tb ti tl:TypeId) (lv:Value) (s:PostS) (W:World):Prop where
 st:PostM W V L n B tb ti tl lv s
 kept:Kept (fun k=>k=V∨k=L∨some k=lv0.ownBlock) W0 W
 blk:lv.ownBlock=lv0.ownBlock∨∃k,lv.ownBlock=some k∧W0.heap.size≤k

theorem PostI.trans {W0 W1 W2:World} {lv0 lv1 lv2:Value} {V L n B:Nat} {tb ti tl:TypeId} {s1 s2:PostS} (h:PostI W0 lv0 V L n B tb ti tl lv1 s1 W1) (k:PostI W1 lv1 V L n B tb ti tl lv2 s2 W2):PostI W0 lv0 V L n B tb ti tl lv2 s2 W2 where
 st:=k.st
 kept:=h.kept.trans k.kept fun i hi hS=>by
  rcases hS with e|e|e
  ·exact .inl e
  ·exact .inr (.inl e)
  rcases h.blk with g|⟨q,g,hq⟩
  ·exact .inr (.inr (e.trans g))
  rw [g] at e;injection e with e;omega
 blk:=by
  rcases k.blk with g|⟨q,g,hq⟩
  ·rcases h.blk with g2|⟨q,g2,hq⟩
   ·exact .inl (g.trans g2)
   exact .inr ⟨q,g.trans g2,hq⟩
  exact .inr ⟨q,g,yv h.kept.size hq⟩
theorem PostI.base {w1 W0 W:World} {lv0 lv:Value} {V L n B:Nat} {tb ti tl:TypeId} {s s0:PostS} (h:PostI W0 lv0 V L n B tb ti tl lv s W) (h0:PostM W0 V L n B tb ti tl lv0 s0) (hB:w1.heap.size≤B) (hk:Kept (fun k=>k=V∨k=L) w1 W0):Kept (fun k=>k=V∨k=L) w1 W:=
 hk.trans h.kept fun i hi hS=>by
  rcases hS with e|e|e
  ·exact .inl e
  ·exact .inr e
  have:=(h0.own.lt i e.symm).1
  omega
theorem PostM.grown {W W':World} {V L n B:Nat} {tb ti tl:TypeId} {lv:Value} {s:PostS} {row:Option Nat} (h:PostM W V L n B tb ti tl lv s) (hg:W.grownBy W' row) (hr:∀r,row=some r→∃o:Obj,W.heap[r]?=some o∧o.isCells=false):PostM W' V L n B tb ti tl lv s where
 seen:=h.seen.of_block (hg.block V h.seen.lt (fun e=>by
  obtain ⟨o,ho,hc⟩:=hr V e.symm
  obtain ⟨cs,hcs⟩:=h.seen
  rw [hcs.1] at ho
  cases ho;cases hc))
 var:=(hg.block L (yL.1 h.var).1 (fun e=>by
  obtain ⟨o,ho,hc⟩:=hr L e.symm
  rw [h.var] at ho
  cases ho;cases hc)).trans h.var
 own:=h.own.kept hg (by
  rcases h.own.2 with ⟨hv,_⟩|⟨g,cap,cur,hv,_,hh,_⟩
  ·rw [hv];exact .inl rfl
  right
  rw [hv]
  intro e
  obtain ⟨o,ho,hc⟩:=hr g e.symm
  rw [hh] at ho
  cases ho;cases hc)
theorem Ya {W0:World} {lv0:Value} {V L n B B':Nat} {tb ti tl:TypeId} (hB:W0.heap.size≤B') (g:Nat→PostS):OwnFrom B' (fun i W=>∃lv,PostI W0 lv0 V L n B tb ti tl lv (g i) W):=by
 rintro s W W' row ⟨lv,h⟩ hg hr
 refine ⟨lv,h.st.grown hg (fun r e=>(hr r e).2),?_,h.blk⟩
 exact ⟨hg.os.trans h.kept.os,hg.tape.trans h.kept.tape,hg.output.trans h.kept.output,yv h.kept.size hg.size,fun k hk hn=>(hg.block k (xB hk h.kept.size) (fun e=>by have:=(hr k e.symm).1;omega)).trans (h.kept.block k hk hn)⟩
theorem PostM.loc {W W':World} {V L n B:Nat} {tb ti tl:TypeId} {lv:Value} {s:PostS} (h:PostM W V L n B tb ti tl lv s) (hb:Below W.heap.size W W'):PostM W' V L n B tb ti tl lv s:=
 ⟨h.seen.of_block (hb.block V h.seen.lt),(hb.block L (yL.1 h.var).1).trans h.var,Qb h.own hb⟩
theorem PostI.here {W:World} {V L n B:Nat} {tb ti tl:TypeId} {lv:Value} {s:PostS} (h:PostM W V L n B tb ti tl lv s):PostI W lv V L n B tb ti tl lv s W:=⟨h,Kept.refl _ _,.inl rfl⟩
theorem PostI.below {W0 W W':World} {lv0:Value} {V L n B:Nat} {tb ti tl:TypeId} {lv:Value} {s:PostS} (h:PostI W0 lv0 V L n B tb ti tl lv s W) (hb:Below W.heap.size W W'):PostI W0 lv0 V L n B tb ti tl lv s W':=
 h.trans ⟨h.st.loc hb,Kept.of_below hb,.inl rfl⟩
attribute [local go_sem] Oper.semAt_some

def tosB (bs:List BlkL) (b:Nat):List Int:=match bs[b]? with|some x=>x.fin.to|none=>[]
theorem qM {bs:List BlkL} {b:Nat} (h:b<bs.length):tosB bs b=bs[b].fin.to:=by
 unfold tosB
 rw [zj h]

theorem PostI.off {W0 W:World} {lv0 lv:Value} {V L n B:Nat} {tb ti tl:TypeId} {s s0:PostS} (_h:PostI W0 lv0 V L n B tb ti tl lv s W) (h0:PostM W0 V L n B tb ti tl lv0 s0) {k:Nat} {o:Obj} (hk:W0.heap[k]?=some o) (ho:o.isCells=false):¬ (k=V∨k=L∨some k=lv0.ownBlock):=by
 rintro (e|e|e)
 ·subst e
  obtain ⟨cs,hcs⟩:=h0.seen
  rw [hcs.1] at hk
  cases hk;cases ho
 ·subst e
  rw [h0.var] at hk
  cases hk;cases ho
 rcases h0.own.2 with ⟨hv,_⟩|⟨g,cap,cur,hv,_,hh,_⟩
 ·rw [hv] at e;cases e
 rw [hv] at e
 injection e with e
 subst e
 rw [hh] at hk
 cases hk;cases ho
theorem PostI.keeps {W0 W:World} {lv0 lv:Value} {V L n B:Nat} {tb ti tl:TypeId} {s s0:PostS} (h:PostI W0 lv0 V L n B tb ti tl lv s W) (h0:PostM W0 V L n B tb ti tl lv0 s0) (B':Nat):KeepsFrom B' W0 W:=
 ⟨h.kept.size,fun k _ _ hk ho=>(h.kept.block k (yL.1 hk).1 (h.off h0 hk ho)).trans hk⟩

theorem Jp (bs:List BlkL) (fp:Option Addr) (fc:Nat) (w1:World) (hl:bs.length≤100000) (h2:∀k (h:k<bs.length),bs[k].fin.to.length≤2) (hT:∀b,b<bs.length→∀x∈tosB bs b,0≤x∧x<(bs.length:Int)) (V H G X L:Nat)
  (hVz:V<w1.heap.size) (hLz:L<w1.heap.size) (hVL:V≠L) (hHV:H≠V) (hHL:H≠L) (hGV:G≠V) (hGL:G≠L) (hXV:X≠V) (hXL:X≠L) (w00:World) (hlV:Below w00.heap.size w00 w1) (hF0:SliceAt w00 6 (BlkR w00) fp bs) (hV0:w00.heap.size≤V) (hL0:w00.heap.size≤L)
  (cH:w1.cell? ⟨H,0,none⟩=some (.slice (some ⟨V,0,none⟩) bs.length bs.length)) (cG:w1.cell? ⟨G,3,none⟩=some (.slice fp bs.length fc)) (cX:w1.cell? ⟨X,0,none⟩=some (.func (.func 102) #[] #[.pointer (some ⟨H,0,none⟩),.pointer (some ⟨G,0,none⟩),.pointer (some ⟨X,0,none⟩),.pointer (some ⟨L,0,none⟩)])) :
  ∀(c:Nat) (s:PostS) (lv:Value) (W:World) (b:Nat),j4 bs.length s.1<c→b<bs.length→s.1 b=false→s.2.length+j4 bs.length s.1≤bs.length→Kept (fun k=>k=V∨k=L) w1 W→PostM W V L bs.length w1.heap.size 4 3 41 lv s→
   Calls Tryz.prog 102 #[.int .i64 b,.pointer (some ⟨H,0,none⟩),.pointer (some ⟨G,0,none⟩),.pointer (some ⟨X,0,none⟩),.pointer (some ⟨L,0,none⟩)] W fun e W'=>e = .returned (.tuple #[])∧∃lv',PostI W lv V L bs.length w1.heap.size 4 3 41 lv' (vQ (tosB bs) c b s) W':=by
 obtain ⟨i1,k1,k2,k3,k4⟩:=info_parts infoInt3
 have HF0:=q7 hF0
 have HT:=q7 hT
 have H2:=q7 h2
 have hiD:=q7 hlV
 clear hF0 hT h2 hlV
 intro c
 induction c with
 | zero=>intro s lv W b h;omega
 | succ c ih=>
  intro s lv W b hc hb hs hm hk hM
  have IH:=q7 ih
  have hmk:=vK (n:=bs.length) hb hs
  have gH:=hk.cell (p:=⟨H,0,none⟩) (qd cH) (fun e=>e.elim hHV hHL)
  have gG:=hk.cell (p:=⟨G,3,none⟩) (qd cG) (fun e=>e.elim hGV hGL)
  rw [cH] at gH
  rw [cG] at gG
  have zV:=hM.seen.lt
  have cV:=hM.seen.cell hb
  have fV:=hM.seen.frozen b
  have zG:=qd gG
  have zH:=qd gH
  have hdX:Below w00.heap.size w00 W:=hiD.out.trans (Kept.below (S:=fun k=>k=V∨k=L) hk hiD.out.size (fun i e=>by rcases e with e|e<;>omega))
  obtain ⟨fb,fo,q1,c1,q2,c2,q3,c3,hp,e0,_,_,_,_,e5,_,_,_,_,_,_,_,hts⟩:=ke HF0.out (zI _ _) hb
  have hbb:fb<w00.heap.size:=qd e0
  subst hp
  have hfV:fb≠V:=by omega
  have e5:=(hdX.cell (p:=⟨fb,fo+b*6+5,none⟩) hbb).trans e5
  have zfb:fb<W.heap.size:=qd e5
  have HM:=q7 hM
  have HK:=q7 hk
  have HTS:=q7 hts
  have HS:=q7 hs
  have HW0:=q7 hdX
  have HVL:=q7 hVL
  have HMK:=q7 hmk
  clear ih hk hM hts e0 hs hdX hmk
  refine (callsIn_wide (n:=3)).1 ?_
  refine callsIn_of_wp_marks Tryz.func102 rfl trivial ?_ rfl
  simp only [Tryz.ntmps102,List.size_toArray,yi,List.length_nil,Nat.reduceAdd,Nat.reduceSub,Array.replicate_succ,Array.replicate_zero,List.push_toArray,List.append_toArray,List.nil_append,List.cons_append]
  have hui:=hfV.symm
  have huj:=hHV.symm
  have huk:=hGV.symm
  gi_wp2_with (refine ⟨trivial,?_⟩;gi_at_call 103;refine ((callsIn_wide (n:=2)).2 (Vg _ _ _ _)).mono ?_;rintro e w2 ⟨rfl,rfl⟩)
  gi_wp2
  obtain ⟨W0,hW0⟩:∃W0,W0=(W.setCell ⟨V,b,none⟩ (.bool true)).alloc (.cells #[.slice q3 bs[b].fin.to.length c3] 41):=⟨_,rfl⟩
  rw [←hW0]
  have hz0:W0.heap.size=W.heap.size+1:=by rw [hW0];simp
  have hgW:W.grownBy (W.setCell ⟨V,b,none⟩ (.bool true)) (some V):=⟨rfl,rfl,rfl,by rw [yK];exact zK _,fun i _ hne=>zJ _ _ _ _ (fun e=>hne (by rw [e]))⟩
  have hM1:PostM (W.setCell ⟨V,b,none⟩ (.bool true)) V L bs.length w1.heap.size 4 3 41 lv (xZ b s):=by
   refine ⟨(HM.out.seen.set b (.bool true)).congr fun j _=>?_,(hgW.block L (q8 HM.out.var) (fun e=>HVL.out (by injection e with e;exact e.symm))).trans HM.out.var,HM.out.own.kept hgW (.inr fun e=>?_)⟩
   ·show (if j=b then Value.bool true else Value.bool (s.1 j))=Value.bool (if j=b then true else s.1 j)
    split<;>rfl
   have:=(HM.out.own.lt V e).1
   omega
  have hP0:PostI W lv V L bs.length w1.heap.size 4 3 41 lv (xZ b s) W0:=by
   have h1:PostI W lv V L bs.length w1.heap.size 4 3 41 lv (xZ b s) (W.setCell ⟨V,b,none⟩ (.bool true)):=⟨hM1,Kept.of_grown hgW (fun g e=>.inl (by injection e with e;exact e.symm)),.inl rfl⟩
   rw [hW0]
   exact h1.below ((zI _ _).alloc (zK _) _)
  have hb0:Below w00.heap.size w00 W0:=by
   rw [hW0]
   exact (HW0.out.setCell (by exact hV0) _).alloc (by have:=HW0.out.size;simp;omega) _
  have hbG:W0.cell? ⟨W.heap.size,0,none⟩=some (.slice q3 bs[b].fin.to.length c3):=by
   rw [hW0]
   exact (blk (qh (w:=W.setCell ⟨V,b,none⟩ (.bool true)) (by simp))).1 0
  have hsh:BackSh W.heap.size q3 c3 bs[b].fin.to W0:=⟨hbG,fun i hi=>by
   obtain ⟨b',o',h1,h2,_⟩:=ZJ HTS.out hb0 hi
   exact ⟨b',o',h1,h2⟩⟩
  have hq3:∀b' o',q3=some ⟨b',o',none⟩→0<bs[b].fin.to.length→b'<w00.heap.size:=fun b' o' e h0=>by
   obtain ⟨b2,o2,h1,h2,_⟩:=ZJ HTS.out (zI _ _) h0
   rw [e] at h1
   cases h1
   exact qd h2
  have HTB:Hid (tosB bs b=bs[b].fin.to):=qM hb
  have hl2:=H2.out b hb
  have hTb:=HT.out b hb
  rw [HTB.out] at hTb
  have HP0:=q7 hP0
  have HSH:=q7 hsh
  have HQ3:=q7 hq3
  have HTb:=q7 hTb
  clear hW0 hP0 hsh hb0 hbG hM1 hgW hq3 hTb e5
  generalize hto:bs[b].fin.to=tq at *
  clear hto
  refine Zi rfl (by omega) (gf:=140) (lb:=#[.pointer (some ⟨W.heap.size,0,none⟩)]) rfl trivial (enters_of Tryz.func140 (by kernel_rfl) rfl)
   (back_at Fence.wide 2 trivial rfl (by omega) W.heap.size c3 q3 tq W0 (by omega) HSH.out) (fun h k x=>k (h x)) (fun W l o o' _ hl ho _ h=>h.putObj o' hl ho) (zI _ _) (fun i _=>rfl)
   (fun i W'=>(∃lv',PostI W0 lv V L bs.length w1.heap.size 4 3 41 lv' (xL (vQ (tosB bs) c) tq (xZ b s) i) W')∧BackSh W.heap.size q3 c3 tq W') (fun _ _ _=>False)
   ((Ya (zK _) _).and own_back) (fun _ _ _ _ _ hs _ _=>hs) ⟨⟨lv,PostI.here HP0.out.st⟩,HSH.out⟩
   (fun i=>{ tmps:=#[.int .i64 b,.pointer (some ⟨H,0,none⟩),.pointer (some ⟨G,0,none⟩),.pointer (some ⟨X,0,none⟩),.pointer (some ⟨L,0,none⟩),undef,undef,.int .i64 (tq.getD (tq.length - 1 - i) 0),.slice (some ⟨V,0,none⟩) bs.length bs.length,.int .i64 b,.pointer (some ⟨V,b,none⟩),.pointer (some ⟨G,3,none⟩),.slice (some ⟨fb,fo,none⟩) bs.length fc,.int .i64 b,.pointer (some ⟨fb,fo+b*6,none⟩),.pointer (some ⟨fb,fo+b*6+2,none⟩),.pointer (some ⟨fb,fo+b*6+2+3,none⟩),.slice q3 tq.length c3,.func (.func 140) #[] #[.pointer (some ⟨W.heap.size,0,none⟩)],.int .i64 ((tq.length - 1 - i:Nat):Int),.int .i64 (tq.getD (tq.length - 1 - i) 0),undef,undef,undef,undef,undef,undef,undef,undef,undef,undef,undef,undef],defers:=[] }) ?assign ?body ?fin ?stop
  case assign=>
   intro l i W K hi hK
   unfold Y9
   gi_wp2
   exact hK
  case body=>
   rintro l i Wi hl hi ⟨⟨lv',hPi⟩,hSi⟩
   have hk1:tq.length - 1 - i<tq.length:=by omega
   have hok:=Zz (n:=bs.length) (rec:=vQ (tosB bs) c) HTb.out (s:=xZ b s) (fun b' s' hb' h' _=>Kn HT.out c b' s' hb' h') i (by omega)
   have hx:=HTb.out _ (zP hk1)
   have hgd:tq.getD (tq.length - 1 - i) 0=tq[tq.length - 1 - i]:=by
    rw [yO,zj hk1]
    rfl
   have HSU:Hid (xL (vQ (tosB bs) c) tq (xZ b s) (i+1)=xD (vQ (tosB bs) c) (xL (vQ (tosB bs) c) tq (xZ b s) i) (tq[tq.length - 1 - i])):=by
    show _=xD _ _ _
    rw [←hgd]
    rfl
   rw [hgd]
   obtain ⟨t,ht⟩:∃t:Nat,tq[tq.length - 1 - i]=(t:Int):=⟨tq[tq.length - 1 - i].toNat,by omega⟩
   rw [ht] at hx HSU
   rw [ht]
   have htn:t<bs.length:=by omega
   generalize xL (vQ (tosB bs) c) tq (xZ b s) i=S at *
   have hkb:=hPi.base HP0.out.st (zK _) (HP0.out.base HM.out (zK _) HK.out)
   have gH:=(hkb.cell (p:=⟨H,0,none⟩) (qd cH) (fun e=>e.elim hHV hHL)).trans cH
   have gX:=(hkb.cell (p:=⟨X,0,none⟩) (qd cX) (fun e=>e.elim hXV hXL)).trans cX
   have gS:=hPi.st.seen.cell htn
   have hlo:j4 bs.length S.1≤j4 bs.length (xZ b s).1:=QW hok.up
   have hiE:=hok.many
   have hsl:(xZ b s).2.length=s.2.length:=rfl
   have hdl:=HMK.out
   have HPi:=q7 hPi
   have HSi:=q7 hSi
   have HKb:=q7 hkb
   clear hgd ht hok hPi hSi hkb
   cases hst:S.1 t
   ·rw [hst] at gS
    have HST:=q7 hst
    clear hst
    gi_wp2_with (refine ⟨trivial,?_⟩;refine (CallsIn.inRound l (callsIn_wide.2 (IH.out S lv' Wi t (by omega) htn HST.out (by omega) HKb.out HPi.out.st))).mono ?_;rintro e W3 ⟨rfl,lv3,hP3⟩)
    gi_wp2
    have hlW:BackSh W.heap.size q3 c3 tq W3:=HSi.out.other fun b' o' v hc hor=>(hP3.kept.cell (p:=⟨b',o',none⟩) (qd hc) (fun e=>by
     have hw1:=HK.out.size
     have hw0:=hiD.out.size
     rcases hor with h|⟨o2,h⟩
     ·rcases e with e|e|e
      ·have e2:b'=V:=e
       omega
      ·have e2:b'=L:=e
       omega
      have e2:some b'=lv'.ownBlock:=e
      rcases HPi.out.blk with g|⟨q,g,hq⟩
      ·have:=(HM.out.own.lt b' (g.symm.trans e2.symm)).2
       omega
      rw [g] at e2
      injection e2 with e2
      omega
     have h1:=HQ3.out b' o2 h (by omega)
     rcases e with e|e|e
     ·have e2:b'=V:=e
      omega
     ·have e2:b'=L:=e
      omega
     have:=(HPi.out.st.own.lt b' (show lv'.ownBlock=some b' from e.symm)).1
     omega)).trans hc
    refine ⟨hP3.keeps HPi.out.st _,fun _=>hlW,⟨lv3,?_⟩,hlW⟩
    rw [HSU.out]
    unfold xD
    rw [show (t:Int).toNat=t from rfl,HST.out]
    exact HPi.out.trans hP3
   rw [hst] at gS
   have HST:=q7 hst
   clear hst
   gi_wp2
   refine ⟨KeepsFrom.refl _ _,fun h=>h,⟨lv',?_⟩,HSi.out⟩
   rw [HSU.out]
   unfold xD
   rw [show (t:Int).toNat=t from rfl,HST.out]
   exact HPi.out
  case fin=>
   rintro D W2 hD ⟨⟨lv',hPi⟩,hSi⟩ hDl
   have hok:=Zz (n:=bs.length) (rec:=vQ (tosB bs) c) HTb.out (s:=xZ b s) (fun b' s' hb' h' _=>Kn HT.out c b' s' hb' h') tq.length (zK _)
   have HVF:Hid (vQ (tosB bs) (c+1) b s=((xL (vQ (tosB bs) c) tq (xZ b s) tq.length).1,(xL (vQ (tosB bs) c) tq (xZ b s) tq.length).2++[(b:Int)])):=by
    show _=_
    rw [←HTB.out]
    rfl
   have hiE:=hok.many
   have hsl:(xZ b s).2.length=s.2.length:=rfl
   have hdl:=HMK.out
   clear hok
   generalize xL (vQ (tosB bs) c) tq (xZ b s) tq.length=S at *
   obtain ⟨m,d,hvv⟩:=xW hPi.st.own
   subst hvv
   have cL:=(blk hPi.st.var).1 0
   have zL:=q8 hPi.st.var
   have fL:=(blk hPi.st.var).2
   have HPi:=q7 hPi
   have HDl:=q7 hDl
   clear hPi hSi hDl
   generalize hln:S.2.length=ln at *
   have HLN:=q7 hln
   clear hln
   gi_wp2_with (gi_at_builtin;refine wpListIn_append_own_at _ rfl _ _ 41 rfl w1.heap.size 3 i1 (.int .i64 0) 1 8 mh k1 k2 k3 k4 rfl (by decide) _ _ _ rfl (show World.ownsRow _ _ _ _ _ _ _ from Qb HPi.out.st.own ((zI _ _).alloc (zK _) _)) ⟨W2.heap.size,0,none⟩ 1 1 [.int .i64 b] rfl rfl (Qi _ _ _ _ rfl) (by simp [Value.oneCell']) ?_ ?_ ?_ ?_)
   ·have:=HLN.out
    unfold maxLen
    omega
   ·have:=HLN.out
    omega
   ·have:=HK.out.size
    have:=HPi.out.kept.size
    simp;omega
   intro v' W5 hown' hgrow _ hat
   obtain ⟨g',cap',hv'⟩:=vX hown'
   subst hv'
   have hWz:W0.heap.size≤W2.heap.size:=HPi.out.kept.size
   have hul:=HK.out.size
   have hiF:∀k,(Value.slice m ln d).ownBlock=some k→w1.heap.size≤k∧k<W2.heap.size:=fun k e=>HPi.out.st.own.lt k e
   have hPa:=HPi.out.below (W':=W2.alloc (.cells #[.int .i64 b] 3)) ((zI _ _).alloc (zK _) _)
   have hcF:=hPa.st.seen.of_block (hgrow.block V hPa.st.seen.lt (fun e=>by have:=(hiF V e.symm).1;omega))
   have hcG:=(hgrow.block L (q8 hPa.st.var) (fun e=>by have:=(hiF L e.symm).1;omega)).trans hPa.st.var
   have hk5:Kept (fun k=>k=V∨k=L∨some k=(Value.slice m ln d).ownBlock) W2 W5:=((Kept.refl _ W2).alloc _).trans (Kept.of_grown (S:=fun k=>some k=(Value.slice m ln d).ownBlock) hgrow (fun g e=>e.symm)) (fun i _ e=>.inr (.inr e))
   have hgS:W5.grownBy (W5.setCell ⟨L,0,none⟩ (.slice (some ⟨g',0,none⟩) (S.2.length+1) cap')) (some L):=⟨rfl,rfl,rfl,by rw [yK];exact zK _,fun i _ hne=>zJ _ _ _ _ (fun e=>hne (by rw [e]))⟩
   have hP5:PostI W2 (.slice m ln d) V L bs.length w1.heap.size 4 3 41 (.slice (some ⟨g',0,none⟩) (S.2.length+1) cap') (S.1,S.2++[(b:Int)]) (W5.setCell ⟨L,0,none⟩ (.slice (some ⟨g',0,none⟩) (S.2.length+1) cap')):=by
    refine ⟨⟨hcF.of_block (hgS.block V hcF.lt (fun e=>HVL.out (by injection e))),?_,?_⟩,hk5.setCell (.inr (.inl rfl)) _,?_⟩
    ·have:=qV hcG 0 (.slice (some ⟨g',0,none⟩) (S.2.length+1) cap')
     simpa using this
    ·have h1:W5.ownsRow w1.heap.size 3 1 (.slice (some ⟨g',0,none⟩) (S.2.length+1) cap') (S.2++[(b:Int)]).length ((S.2++[(b:Int)]).map (.int .i64)):=by
      rw [yN,yW]
      exact hown'
     exact h1.kept hgS (.inr fun e=>by have:=(h1.lt L e).1;omega)
    rcases hat with e|e
    ·exact .inl e
    exact .inr ⟨_,e,by simp⟩
   have hD5:(W5.setCell ⟨L,0,none⟩ (.slice (some ⟨g',0,none⟩) (S.2.length+1) cap')).heap[D]?=some (.deferred (some [])):=(hP5.kept.block D (q8 HDl.out) ((PostI.here HPi.out.st).off HPi.out.st HDl.out rfl)).trans HDl.out
   have hPZ:=(HP0.out.trans HPi.out).trans hP5
   have cL5:=(blk hcG).1 0
   have fL5:=(blk hcG).2
   have zL5:=q8 hcG
   have HPZ:=q7 hPZ
   have HD5:=q7 hD5
   clear hown' hgrow hat hPa hcF hk5 hgS hP5 hD5 hPZ hcG hiF
   gi_wp2
   show LeavesInM _ _ _ _ _ _ (Vh [D]) .returning _
   refine vk W0.heap.size [D] _ (by simp) (fun E hE=>?_) (fun w' h1 h2 h3 h4 h5=>⟨_,results_none rfl _ _ _,rfl,?_⟩)
   ·rw [yI] at hE
    subst hE
    exact ⟨hD,HD5.out⟩
   rw [HVF.out]
   refine Ya (B':=W0.heap.size) (by omega) (fun _=>(S.1,S.2++[(b:Int)])) 0 _ w' (some D) ⟨_,HPZ.out⟩ ⟨h1,h2,h3,h4,fun k _ hne=>h5 k (fun hk=>hne (by rw [yI] at hk;rw [hk]))⟩ (fun r e=>?_)
   injection e with e
   subst e
   exact ⟨hD,_,HD5.out,rfl⟩
  case stop=>
   rintro D c i W2 _ _ h _
   exact h.elim
end Go.Proofs.YtbnnhmcloecijaaGreatDoor
namespace Go.Proofs.YtbnnhmcloecijaaGreatDoor
open Go.RowKit Go.Shelf

theorem Ko:Tryz.prog.underlying 152=some (.slice 4):=by kernel_rfl
theorem infoBool3:(Tryz.prog.info? 4).map (fun i=>(i.zero,i.size,i.bytes))=some (some (.bool false),1,1):=by kernel_rfl

def vv (bs:List BlkL):List Int:=(vQ (tosB bs) (bs.length+1) 0 (fun _=>false,[])).2
theorem k5 (n:Nat) (p:Nat→Bool):j4 n p≤n:=by
 unfold j4
 exact yv (List.length_filter_le _ _) (by simp)

theorem Jq (f:FunL) (fp:Option Addr) (fc:Nat) (w:World) (hn:0<f.blocks.length) (hl:f.blocks.length≤100000) (h2:∀k (h:k<f.blocks.length),f.blocks[k].fin.to.length≤2) (hT:∀b,b<f.blocks.length→∀x∈tosB f.blocks b,0≤x∧x<(f.blocks.length:Int)) (hF:SliceAt w 6 (BlkR w) fp f.blocks) :
  Calls Tryz.prog 55 #[.agg #[.string f.name,.int .i64 f.params,.int .i64 f.regs,.slice fp f.blocks.length fc]] w fun e w'=>∃v,e = .returned v∧w'.ownsRow w.heap.size 3 1 v (vv f.blocks).length ((vv f.blocks).map (.int .i64))∧Below w.heap.size w w':=by
 obtain ⟨i1,k1,k2,k3,k4⟩:=info_parts infoBool3
 have hmk:=run_make_row 152 4 i1 (.bool false) Ko k1 k2 k3 rfl .i64 .i64 f.blocks.length (by rw [k4];omega) (by omega)
 have HF:=q7 hF
 have H2:=q7 h2
 have HT:=q7 hT
 clear hF h2 hT
 go_enter Tryz.func55,Tryz.ntmps55
 go_wp2_with fail
 refine (Jp f.blocks fp fc _ hl H2.out HT.out (w.heap.size+1+1) (w.heap.size+1+1+1) w.heap.size (w.heap.size+1+1+1+1) (w.heap.size+1) (by simp) (by simp) (by omega) (by omega) (by omega) (by omega) (by omega) (by omega) (by omega) w bZ HF.out (by omega) (by omega) ?_ ?_ ?_ (f.blocks.length+1) (fun _=>false,[]) (.slice none 0 0) _ 0 (by have:=k5 f.blocks.length (fun _=>false);exact Nat.lt_succ_of_le this) hn rfl (by have:=k5 f.blocks.length (fun _=>false);simpa using this) (Kept.refl _ _) ?_).mono ?_
 ·exact (blk (qg (qh (by simp)))).1 0
 ·exact (blk (qg (qg (qg (qg (qn w _)))))).1 3
 ·exact (blk (qh (by simp))).1 0
 ·refine ⟨?_,qg (qg (qg (qh (by simp)))),World.ownsRow_nil _ _ _ _⟩
  have hM:=World.rowIs_made ((w.alloc (.cells #[.string f.name,.int .i64 f.params,.int .i64 f.regs,.slice fp f.blocks.length fc] 36)).alloc (.cells #[.slice none 0 0] 41)) (.bool false) f.blocks.length 4
  have e:((w.alloc (.cells #[.string f.name,.int .i64 f.params,.int .i64 f.regs,.slice fp f.blocks.length fc] 36)).alloc (.cells #[.slice none 0 0] 41)).heap.size=w.heap.size+1+1:=by simp
  rw [e] at hM
  exact (hM.alloc _).alloc _
 rintro e w2 ⟨rfl,lv,hP⟩
 obtain ⟨m,d,hv⟩:=xW hP.st.own
 subst hv
 have cL:=(blk hP.st.var).1 0
 have hb:Below w.heap.size w w2:=yo bZ (hP.kept.below (by simp;omega) fun i e=>by
  rcases e with e|e|e
  ·omega
  ·omega
  cases e)
 have HB:=q7 hb
 have HO:=q7 (kt hP.st.own (B:=w.heap.size) (by simp;omega))
 clear hP hb
 go_wp2
 exact zk (results_tmp (t:=2) rfl _ _ _) rfl ⟨_,rfl,HO.out,HB.out⟩
end Go.Proofs.YtbnnhmcloecijaaGreatDoor
