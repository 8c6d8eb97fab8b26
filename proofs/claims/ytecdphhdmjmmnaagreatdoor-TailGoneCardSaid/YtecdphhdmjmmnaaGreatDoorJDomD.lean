/-
  The contract of graph.Ahead: of each block the blocks that lead to it (the same text as co
-/
import Derived.Test.YtecdphhdmjmmnaaGreatDoorJLivV
import Derived.Shelf.SlicesE.DeleteFunc
set_option maxRecDepth 100000
set_option maxHeartbeats 16000000
namespace Go.Proofs.YtecdphhdmjmmnaaGreatDoor
open Go.RowKit Go.Shelf
attribute [local go_sem] Oper.semAt_some

theorem XI (s:SetL) (x:InsL) (i:Nat) (h:i<(qI x).length):((qI x).take (i+1)).foldl vL s=vL (((qI x).take i).foldl vL s) (qI x)[i]:=by
 rw[←List.take_append_getElem h,List.foldl_append]
 rfl

theorem QE {B g:Nat} {s:SetL} {W W':World} (hk:Kept (fun b=>b=g) W W') (h:SetAt W g s):KeepsFrom B W W':=
 ⟨hk.size,fun k o _ hq ho=>(hk.block k (q9 hq) fun e=>by
  obtain⟨_,hc⟩:=h.blk
  have e:k=g:=e
  rw[e,hc]at hq
  cases hq
  cases ho).trans hq⟩
theorem keepsB {B:Nat} {a b:World} (h:Below a.heap.size a b):KeepsFrom B a b:=⟨h.size,fun k _o _ hq _=>(h.block k (q9 hq)).trans hq⟩
theorem Jo {g B:Nat} (hB:g<B) (f:Nat→SetL):OwnFrom B (fun i W=>SetAt W g (f i)):=fun s W W' row hs hg hr=>
 hs.of_block (hg.block g hs.lt fun e=>by have:=(hr g e.symm).1;omega)

theorem XJ (g c:Nat) (s:SetL) (x:InsL) (q:Option Addr) (cs:Nat) (w:World) (h:SetAt w g s) (hop:1≤x.op∧x.op≤22) (hl:x.args.length*16≤140737488351232) (hq:SliceAt w 2 kR q x.args) (hqg:∀b o,q=some ⟨b,o,none⟩→0<x.args.length→b≠g) (hd:0≤x.dst→x.dst<s.length) (hv:∀v∈qI x,v.1=true→0≤v.2∧v.2<(s.length:Int)) :
  Calls Tryz.prog 119 #[.slice (some ⟨g,0,none⟩) s.length c,.agg #[.int .i64 x.op,.int .i64 x.dst,.bool x.ar,.int .i64 x.an,.bool x.br,.int .i64 x.bn,.int .i64 x.fn,.slice q x.args.length cs]] w fun e w'=>e = .returned (.tuple #[])∧SetAt w' g (XF s x)∧Kept (fun b=>b=g) w w':=by
 have HQ:=q7 (And.intro hq hqg)
 have HV:=q7 hv
 obtain⟨s0,hs0⟩:∃s0,s0=if 0≤x.dst then s.set x.dst.toNat false else s:=⟨_,rfl⟩
 have HS0:=q7 hs0
 have hf:=h.frozen
 have hz:=h.lt
 have H:=q7 h
 clear hq hqg hv hs0 h
 refine(callsIn_wide (n:=3)).1 ?_
 refine callsIn_of_wp_marks Tryz.func119 rfl trivial ?_ rfl
 simp only[Tryz.ntmps119,List.size_toArray,List.length_cons,List.length_nil,Nat.reduceAdd,Nat.reduceSub,Array.replicate_succ,Array.replicate_zero,List.push_toArray,List.append_toArray,List.nil_append,List.cons_append]
 by_cases hd0:0≤x.dst
 ·obtain⟨d,hdd⟩:∃d:Nat,x.dst=d:=⟨x.dst.toNat,by omega⟩
  have hds:d<s.length:=by have:=hd hd0;omega
  have hc:=H.out.cell d hds
  have hd1:decide (x.dst≥0)=true:=decide_eq_true hd0
  have hs1:s0=s.set d false:=by rw[HS0.out,if_pos hd0,hdd];rfl
  have HS1:=q7 hs1
  clear hs1
  gi_wp2_with (refine⟨trivial,?_⟩;gi_at_call 146;refine((callsIn_wide (n:=2)).2 (Ve _ _)).mono ?_;rintro e w2 ⟨rfl,rfl⟩)
  obtain⟨W0,hW0⟩:∃W0,W0=((((w.setCell ⟨g,d,none⟩ (.bool false)).alloc (.cells #[.slice (some ⟨g,0,none⟩) s.length c] 169)).alloc (.cells #[.int .i64 x.op,.int .i64 d,.bool x.ar,.int .i64 x.an,.bool x.br,.int .i64 x.bn,.int .i64 x.fn,.slice q x.args.length cs] 53)).alloc (.cells #[.int .i64 x.op,.int .i64 d,.bool x.ar,.int .i64 x.an,.bool x.br,.int .i64 x.bn,.int .i64 x.fn,.slice q x.args.length cs] 53)):=⟨_,rfl⟩
  rw[←hW0]
  have hk0:Kept (fun b=>b=g) w W0:=by rw[hW0];exact((((Kept.refl (fun b=>b=g) w).setCell (p:=⟨g,d,none⟩) rfl _).alloc _).alloc _).alloc _
  have hset:SetAt W0 g s0:=by rw[hW0,HS1.out];exact(((H.out.set d false).below (.alloc (.refl _ _) (Nat.le_refl _) _)).below (.alloc (.refl _ _) (Nat.le_refl _) _)).below (.alloc (.refl _ _) (Nat.le_refl _) _)
  have hz0:W0.heap.size=w.heap.size+1+1+1:=by rw[hW0];simp
  have hbx:W0.heap[w.heap.size]?=some (.cells #[.slice (some ⟨g,0,none⟩) s.length c] 169 (0,0)):=by rw[hW0];exact qj (qj (qh (by simp)))
  have hX:W0.heap[w.heap.size+1+1]?=some (.cells #[.int .i64 x.op,.int .i64 d,.bool x.ar,.int .i64 x.an,.bool x.br,.int .i64 x.bn,.int .i64 x.fn,.slice q x.args.length cs] 53 (0,0)):=by rw[hW0];exact qh (by simp)
  clear hW0
  have hsh:ValSh (w.heap.size+1+1) q cs x W0:=⟨(blk hX).1 0,(blk hX).1 2,(blk hX).1 3,(blk hX).1 4,(blk hX).1 5,(blk hX).1 7,fun i hi=>by
   obtain⟨b,o,e1,e2,e3,_⟩:=ZZ HQ.out.1 (Below.refl _ _) hi
   have hbg:=HQ.out.2 b o e1 (by omega)
   exact⟨b,o,e1,(hk0.cell (p:=⟨b,_,none⟩) (q8 e2) hbg).trans e2,(hk0.cell (p:=⟨b,_,none⟩) (q8 e3) hbg).trans e3⟩⟩
  have hGx:¬ (fun b=>b=g) (w.heap.size+1+1)∧∀b o,q=some ⟨b,o,none⟩→0<x.args.length→¬ (fun b=>b=g) b:=⟨fun e=>by(have e:w.heap.size+1+1=g:=e);omega,fun b o e h=>HQ.out.2 b o e h⟩
  have hsl:s0.length=s.length:=by rw[HS1.out];simp
  have HK0:=q7 hk0
  have hhy:=q7 hset
  have HBx:=q7 hbx
  have HSh:=q7 hsh
  have HSl:=q7 hsl
  clear hk0 hset hbx hX hsh hd1 hsl hdd
  have HOw:Hid (OwnFrom W0.heap.size (fun(i:Nat) W=>Kept (fun b=>b=g) W0 W∧SetAt W g (((qI x).take i).foldl vL s0))):=q7 ((Zs (Nat.le_refl _)).and (Jo (by omega) _))
  refine jD rfl (by omega) (gf:=168) (lb:=#[.pointer (some ⟨w.heap.size+1+1,0,none⟩)]) rfl trivial (enters_of Tryz.func168 (by kernel_rfl) rfl)
   (XH (fun b=>b=g) (w.heap.size+1+1) cs q x W0 hop hl HSh.out hGx (fun b e=>by(have e:b=g:=e);omega)) (fun h k=>h.trans k) (fun W l o o' _ hl ho _=>.of (KC.putObj o' hl ho)) (Below.refl _ _) (fun i _=>rfl)
   (fun i W=>Kept (fun b=>b=g) W0 W∧SetAt W g (((qI x).take i).foldl vL s0)) (fun _ _ _=>False)
   HOw.out (fun _ _ _ _ _ hs _ _=>hs) ⟨Kept.refl _ _,hhy.out⟩
   (fun m W=>(Kept (fun b=>b=g) W0 W∧SetAt W g (((qI x).take m.1).foldl vL s0))∧∃V,m.2={ tmps:=#[.slice (some ⟨g,0,none⟩) s.length c,.agg #[.int .i64 x.op,.int .i64 d,.bool x.ar,.int .i64 x.an,.bool x.br,.int .i64 x.bn,.int .i64 x.fn,.slice q x.args.length cs],.pointer (some ⟨w.heap.size,0,none⟩),.pointer (some ⟨w.heap.size+1,0,none⟩),.pointer (some ⟨V,0,none⟩),.pointer (some ⟨w.heap.size+1,1,none⟩),.int .i64 d,.bool true,.slice (some ⟨g,0,none⟩) s.length c,.pointer (some ⟨w.heap.size+1,1,none⟩),.int .i64 d,.pointer (some ⟨g,d,none⟩),.agg #[.int .i64 x.op,.int .i64 d,.bool x.ar,.int .i64 x.an,.bool x.br,.int .i64 x.bn,.int .i64 x.fn,.slice q x.args.length cs],.func (.func 168) #[] #[.pointer (some ⟨w.heap.size+1+1,0,none⟩)],.agg #[.bool ((qI x).getD m.1 (false,0)).1,.int .i64 ((qI x).getD m.1 (false,0)).2],undef,undef,undef],defers:=[] }∧W0.heap.size≤V∧W.heap[V]?=some (.cells #[.bool ((qI x).getD m.1 (false,0)).1,.int .i64 ((qI x).getD m.1 (false,0)).2] 43 (0,0))) ?ownM ?assign ?body ?done ?stop
  case ownM=>
   rintro m W W' row ⟨h,V,e,hV,hv⟩ hg hr
   refine⟨HOw.out m.1 W W' row h hg hr,V,e,hV,(hg.block V (q9 hv) fun e2=>?_).trans hv⟩
   obtain⟨_,o,ho,hc⟩:=hr V e2.symm
   rw[hv]at ho
   cases ho
   cases hc
  case assign=>
   rintro l i W K hl hi ⟨hk,hs⟩ hK
   have hgd:(qI x).getD i (false,0)=(qI x)[i]:=by rw[List.getD_eq_getElem?_getD,List.getElem?_eq_getElem hi];rfl
   unfold kn
   rw[hgd]
   generalize hv:(qI x)[i]=v at *
   have HGd:=q7 hgd
   clear hgd hv
   gi_wp2
   exact hK _ _ ⟨⟨hk.alloc _,hs.below ((Below.refl _ _).alloc (Nat.le_refl _) _)⟩,W.heap.size,by rw[HGd.out],hk.size,by rw[HGd.out];exact qm W _⟩ (keepsB ((Below.refl _ _).alloc (Nat.le_refl _) _)) (KCg.below ((Below.refl _ _).alloc (Nat.le_refl _) _))
  case body=>
   rintro l i a₁ W hl hi ⟨⟨hk,hs⟩,V,ea,hVb,hV⟩
   simp only at ea hV hs
   subst ea
   have hgd:(qI x).getD i (false,0)=(qI x)[i]:=by rw[List.getD_eq_getElem?_getD,List.getElem?_eq_getElem hi];rfl
   rw[hgd]at hV ⊢
   have hvv:=HV.out _ (List.getElem_mem hi)
   have hnx:=XI s0 x i hi
   have hbx:W.cell? ⟨w.heap.size,0,none⟩=some (.slice (some ⟨g,0,none⟩) s.length c):=(hk.cell (p:=⟨w.heap.size,0,none⟩) (by show w.heap.size<_;omega) (fun e=>by(have e:w.heap.size=g:=e);omega)).trans ((blk HBx.out).1 0)
   have hzb:=q8 hbx
   have y0:W.cell? ⟨V,0,none⟩=some (.bool (qI x)[i].1):=(blk hV).1 0
   have y1:W.cell? ⟨V,1,none⟩=some (.int .i64 (qI x)[i].2):=(blk hV).1 1
   have hsl2:(((qI x).take i).foldl vL s0).length=s.length:=by rw[jd,HSl.out]
   generalize (qI x)[i]=v at *
   have hta:=ZH g c _ v W hs (by rw[hsl2];exact hvv)
   rw[hsl2]at hta
   have HTa:=q7 hta
   have HS3:=q7 hs
   have HNx:=q7 hnx
   have HK:=q7 hk
   clear hs hta hnx hsl2 hk hV hgd hvv
   gi_wp2_with fail
   refine⟨trivial,?_⟩
   refine(CallsIn.inRound l (callsIn_wide.2 HTa.out)).mono ?_
   rintro e w3 ⟨rfl,hs3,hk3⟩
   gi_wp2
   exact⟨QE hk3 HS3.out,KCg.kept hk3,HK.out.trans hk3 (fun _ _ h=>h),by rw[HNx.out];exact hs3⟩
  case done=>
   rintro D W hD ⟨hk,hs⟩ hDl
   rw[List.take_of_length_le (Nat.le_refl _)]at hs
   have HS:=q7 hs
   have HK:=q7 hk
   clear hs hk
   gi_wp2
   refine xK W0.heap.size [D] _ (by simp) (fun E hE=>by obtain rfl:E=D:=(by simpa using hE);exact⟨hD,hDl⟩) (fun w' h1 h2 h3 h4 h5=>⟨_,results_none rfl _ _ _,rfl,?_,?_⟩)
   ·have:=HS.out.of_block (w':=w') (h5 g (fun h=>by have:=List.mem_singleton.1 h;omega))
    rw[HS0.out]at this
    exact this
   have hk2:=HK0.out.trans HK.out (fun _ _ h=>h)
   exact⟨h1.trans hk2.os,h2.trans hk2.tape,h3.trans hk2.output,Nat.le_trans hk2.size h4,fun i hi hn=>(h5 i (fun h=>by have:=List.mem_singleton.1 h;omega)).trans (hk2.block i hi hn)⟩
  case stop=>exact fun _ _ _ _ _ _ h _=>h.elim
 have hd1:decide (x.dst≥0)=false:=decide_eq_false hd0
 have hs1:s0=s:=by rw[HS0.out,if_neg hd0]
 have HS1:=q7 hs1
 clear hs1
 gi_wp2_with (refine⟨trivial,?_⟩;gi_at_call 146;refine((callsIn_wide (n:=2)).2 (Ve _ _)).mono ?_;rintro e w2 ⟨rfl,rfl⟩)
 obtain⟨W0,hW0⟩:∃W0,W0=(((w.alloc (.cells #[.slice (some ⟨g,0,none⟩) s.length c] 169)).alloc (.cells #[.int .i64 x.op,.int .i64 x.dst,.bool x.ar,.int .i64 x.an,.bool x.br,.int .i64 x.bn,.int .i64 x.fn,.slice q x.args.length cs] 53)).alloc (.cells #[.int .i64 x.op,.int .i64 x.dst,.bool x.ar,.int .i64 x.an,.bool x.br,.int .i64 x.bn,.int .i64 x.fn,.slice q x.args.length cs] 53)):=⟨_,rfl⟩
 rw[←hW0]
 have hk0:Kept (fun b=>b=g) w W0:=by rw[hW0];exact(((Kept.refl (fun b=>b=g) w).alloc _).alloc _).alloc _
 have hset:SetAt W0 g s0:=by rw[hW0,HS1.out];exact((H.out.below (.alloc (.refl _ _) (Nat.le_refl _) _)).below (.alloc (.refl _ _) (Nat.le_refl _) _)).below (.alloc (.refl _ _) (Nat.le_refl _) _)
 have hz0:W0.heap.size=w.heap.size+1+1+1:=by rw[hW0];simp
 have hbx:W0.heap[w.heap.size]?=some (.cells #[.slice (some ⟨g,0,none⟩) s.length c] 169 (0,0)):=by rw[hW0];exact qj (qj (qh (by simp)))
 have hX:W0.heap[w.heap.size+1+1]?=some (.cells #[.int .i64 x.op,.int .i64 x.dst,.bool x.ar,.int .i64 x.an,.bool x.br,.int .i64 x.bn,.int .i64 x.fn,.slice q x.args.length cs] 53 (0,0)):=by rw[hW0];exact qh (by simp)
 clear hW0
 have hsh:ValSh (w.heap.size+1+1) q cs x W0:=⟨(blk hX).1 0,(blk hX).1 2,(blk hX).1 3,(blk hX).1 4,(blk hX).1 5,(blk hX).1 7,fun i hi=>by
  obtain⟨b,o,e1,e2,e3,_⟩:=ZZ HQ.out.1 (Below.refl _ _) hi
  have hbg:=HQ.out.2 b o e1 (by omega)
  exact⟨b,o,e1,(hk0.cell (p:=⟨b,_,none⟩) (q8 e2) hbg).trans e2,(hk0.cell (p:=⟨b,_,none⟩) (q8 e3) hbg).trans e3⟩⟩
 have hGx:¬ (fun b=>b=g) (w.heap.size+1+1)∧∀b o,q=some ⟨b,o,none⟩→0<x.args.length→¬ (fun b=>b=g) b:=⟨fun e=>by(have e:w.heap.size+1+1=g:=e);omega,fun b o e h=>HQ.out.2 b o e h⟩
 have hsl:s0.length=s.length:=by rw[HS1.out]
 have HK0:=q7 hk0
 have hhy:=q7 hset
 have HBx:=q7 hbx
 have HSh:=q7 hsh
 have HSl:=q7 hsl
 clear hk0 hset hbx hX hsh hd1 hsl
 have HOw:Hid (OwnFrom W0.heap.size (fun(i:Nat) W=>Kept (fun b=>b=g) W0 W∧SetAt W g (((qI x).take i).foldl vL s0))):=q7 ((Zs (Nat.le_refl _)).and (Jo (by omega) _))
 refine jD rfl (by omega) (gf:=168) (lb:=#[.pointer (some ⟨w.heap.size+1+1,0,none⟩)]) rfl trivial (enters_of Tryz.func168 (by kernel_rfl) rfl)
  (XH (fun b=>b=g) (w.heap.size+1+1) cs q x W0 hop hl HSh.out hGx (fun b e=>by(have e:b=g:=e);omega)) (fun h k=>h.trans k) (fun W l o o' _ hl ho _=>.of (KC.putObj o' hl ho)) (Below.refl _ _) (fun i _=>rfl)
  (fun i W=>Kept (fun b=>b=g) W0 W∧SetAt W g (((qI x).take i).foldl vL s0)) (fun _ _ _=>False)
  HOw.out (fun _ _ _ _ _ hs _ _=>hs) ⟨Kept.refl _ _,hhy.out⟩
  (fun m W=>(Kept (fun b=>b=g) W0 W∧SetAt W g (((qI x).take m.1).foldl vL s0))∧∃V,m.2={ tmps:=#[.slice (some ⟨g,0,none⟩) s.length c,.agg #[.int .i64 x.op,.int .i64 x.dst,.bool x.ar,.int .i64 x.an,.bool x.br,.int .i64 x.bn,.int .i64 x.fn,.slice q x.args.length cs],.pointer (some ⟨w.heap.size,0,none⟩),.pointer (some ⟨w.heap.size+1,0,none⟩),.pointer (some ⟨V,0,none⟩),.pointer (some ⟨w.heap.size+1,1,none⟩),.int .i64 x.dst,.bool false,undef,undef,undef,undef,.agg #[.int .i64 x.op,.int .i64 x.dst,.bool x.ar,.int .i64 x.an,.bool x.br,.int .i64 x.bn,.int .i64 x.fn,.slice q x.args.length cs],.func (.func 168) #[] #[.pointer (some ⟨w.heap.size+1+1,0,none⟩)],.agg #[.bool ((qI x).getD m.1 (false,0)).1,.int .i64 ((qI x).getD m.1 (false,0)).2],undef,undef,undef],defers:=[] }∧W0.heap.size≤V∧W.heap[V]?=some (.cells #[.bool ((qI x).getD m.1 (false,0)).1,.int .i64 ((qI x).getD m.1 (false,0)).2] 43 (0,0))) ?ownM ?assign ?body ?done ?stop
 case ownM=>
  rintro m W W' row ⟨h,V,e,hV,hv⟩ hg hr
  refine⟨HOw.out m.1 W W' row h hg hr,V,e,hV,(hg.block V (q9 hv) fun e2=>?_).trans hv⟩
  obtain⟨_,o,ho,hc⟩:=hr V e2.symm
  rw[hv]at ho
  cases ho
  cases hc
 case assign=>
  rintro l i W K hl hi ⟨hk,hs⟩ hK
  have hgd:(qI x).getD i (false,0)=(qI x)[i]:=by rw[List.getD_eq_getElem?_getD,List.getElem?_eq_getElem hi];rfl
  unfold kn
  rw[hgd]
  generalize hv:(qI x)[i]=v at *
  have HGd:=q7 hgd
  clear hgd hv
  gi_wp2
  exact hK _ _ ⟨⟨hk.alloc _,hs.below ((Below.refl _ _).alloc (Nat.le_refl _) _)⟩,W.heap.size,by rw[HGd.out],hk.size,by rw[HGd.out];exact qm W _⟩ (keepsB ((Below.refl _ _).alloc (Nat.le_refl _) _)) (KCg.below ((Below.refl _ _).alloc (Nat.le_refl _) _))
 case body=>
  rintro l i a₁ W hl hi ⟨⟨hk,hs⟩,V,ea,hVb,hV⟩
  simp only at ea hV hs
  subst ea
  have hgd:(qI x).getD i (false,0)=(qI x)[i]:=by rw[List.getD_eq_getElem?_getD,List.getElem?_eq_getElem hi];rfl
  rw[hgd]at hV ⊢
  have hvv:=HV.out _ (List.getElem_mem hi)
  have hnx:=XI s0 x i hi
  have hbx:W.cell? ⟨w.heap.size,0,none⟩=some (.slice (some ⟨g,0,none⟩) s.length c):=(hk.cell (p:=⟨w.heap.size,0,none⟩) (by show w.heap.size<_;omega) (fun e=>by(have e:w.heap.size=g:=e);omega)).trans ((blk HBx.out).1 0)
  have hzb:=q8 hbx
  have y0:W.cell? ⟨V,0,none⟩=some (.bool (qI x)[i].1):=(blk hV).1 0
  have y1:W.cell? ⟨V,1,none⟩=some (.int .i64 (qI x)[i].2):=(blk hV).1 1
  have hsl2:(((qI x).take i).foldl vL s0).length=s.length:=by rw[jd,HSl.out]
  generalize (qI x)[i]=v at *
  have hta:=ZH g c _ v W hs (by rw[hsl2];exact hvv)
  rw[hsl2]at hta
  have HTa:=q7 hta
  have HS3:=q7 hs
  have HNx:=q7 hnx
  have HK:=q7 hk
  clear hs hta hnx hsl2 hk hV hgd hvv
  gi_wp2_with fail
  refine⟨trivial,?_⟩
  refine(CallsIn.inRound l (callsIn_wide.2 HTa.out)).mono ?_
  rintro e w3 ⟨rfl,hs3,hk3⟩
  gi_wp2
  exact⟨QE hk3 HS3.out,KCg.kept hk3,HK.out.trans hk3 (fun _ _ h=>h),by rw[HNx.out];exact hs3⟩
 case done=>
  rintro D W hD ⟨hk,hs⟩ hDl
  rw[List.take_of_length_le (Nat.le_refl _)]at hs
  have HS:=q7 hs
  have HK:=q7 hk
  clear hs hk
  gi_wp2
  refine xK W0.heap.size [D] _ (by simp) (fun E hE=>by obtain rfl:E=D:=(by simpa using hE);exact⟨hD,hDl⟩) (fun w' h1 h2 h3 h4 h5=>⟨_,results_none rfl _ _ _,rfl,?_,?_⟩)
  ·have:=HS.out.of_block (w':=w') (h5 g (fun h=>by have:=List.mem_singleton.1 h;omega))
   rw[HS0.out]at this
   exact this
  have hk2:=HK0.out.trans HK.out (fun _ _ h=>h)
  exact⟨h1.trans hk2.os,h2.trans hk2.tape,h3.trans hk2.output,Nat.le_trans hk2.size h4,fun i hi hn=>(h5 i (fun h=>by have:=List.mem_singleton.1 h;omega)).trans (hk2.block i hi hn)⟩
 case stop=>exact fun _ _ _ _ _ _ h _=>h.elim
end Go.Proofs.YtecdphhdmjmmnaaGreatDoor
namespace Go.Proofs.YtecdphhdmjmmnaaGreatDoor
open Go.RowKit

theorem eqSet_any (g1 g2 c1 c2:Nat) (s t:SetL) (w:World) (h1:SetAt w g1 s) (h2:SetAt w g2 t) (hl:t.length=s.length) (hs:s.length≤1000) :
  Calls Tryz.prog 120 #[.slice (some ⟨g1,0,none⟩) s.length c1,.slice (some ⟨g2,0,none⟩) s.length c2] w fun e w'=>e = .returned (.bool (decide (s=t)))∧∃q,w'=w.drewN q:=by
 have H1:=q7 h1
 have H2:=q7 h2
 have HL:=q7 hl
 obtain⟨n,hn⟩:∃n,n=s.length:=⟨_,rfl⟩
 have HN:=q7 hn
 rw[←hn]at hs ⊢
 clear h1 h2 hl hn
 go_enter Tryz.func120,Tryz.ntmps120
 go_wp2
 go_loopg [13] n (fun m i wr=>∃k q:Nat,k≤n∧m=n - k∧i = .int .i64 k∧wr=w.drewN q∧∀j,j<k→inS s j=inS t j)
 case atStart=>exact⟨0,0,by omega,rfl,rfl,rfl,fun j h=>by omega⟩
 case round=>
  obtain⟨k,q,hk,rfl,rfl,rfl,hA⟩:=hrel
  have HA:=q7 hA
  clear hA
  by_cases hlt:k<n
  rotate_left
  ·go_wp2
   go_ret
   refine⟨?_,q,rfl⟩
   have:s=t:=List.ext_getElem HL.out.symm fun j h1 h2=>by
    have:=HA.out j (by have:=HN.out;omega)
    unfold inS at this
    rw[List.getD_eq_getElem?_getD,List.getD_eq_getElem?_getD,List.getElem?_eq_getElem h1,List.getElem?_eq_getElem h2]at this
    exact this
   rw[decide_eq_true this]
   rfl
  have e1:w.cell? ⟨g1,k,none⟩=some (.bool (inS s k)):=H1.out.cell k (by have:=HN.out;omega)
  have e2:w.cell? ⟨g2,k,none⟩=some (.bool (inS t k)):=H2.out.cell k (by have:=HN.out;have:=HL.out;omega)
  obtain⟨a,ha⟩:∃a,a=inS s k:=⟨_,rfl⟩
  obtain⟨b,hb⟩:∃b,b=inS t k:=⟨_,rfl⟩
  rw[←ha]at e1
  rw[←hb]at e2
  have HAB:=q7 (And.intro ha hb)
  clear ha hb
  by_cases hab:a=b
  ·subst hab
   have hne:(!(a == a))=false:=by simp
   go_wp2_with fail
   go_region
   go_wp2
   go_roundg (n - (k+1))
   case measure=>omega
   case rel=>
    refine⟨k+1,q+1,by omega,rfl,by go_num,rfl,fun j hj=>?_⟩
    by_cases e:j=k
    ·subst e
     rw[←HAB.out.1,←HAB.out.2]
    exact HA.out j (by omega)
  have hne:(!(a == b))=true:=by simpa using hab
  go_wp2_with fail
  go_region
  go_wp2
  go_ret
  refine⟨?_,q+1,rfl⟩
  have:¬ s=t:=fun e=>hab (by rw[HAB.out.1,HAB.out.2,e])
  rw[decide_eq_false this]
  rfl

theorem ZI:(Tryz.prog.info? 4).map (fun i=>(i.zero,i.size,i.bytes))=some (some (.bool false),1,1):=by kernel_rfl
def QF (s:SetL) (i:Nat):List Value:=[.bool (inS s i)]
theorem VS (s:SetL) {w:World} {g:Nat} (h:SetAt w g s):∀j u,((List.range s.length).flatMap (QF s))[j]?=some u→w.cell? ((⟨g,0,none⟩:Addr).add j)=some u:=fun j u hj=>by
 have hl:=qE (cs:=QF s) (size:=1) s.length (fun _ _=>rfl)
 have hlt:j<s.length:=by
  have:=(List.getElem?_eq_some_iff.1 hj).1
  omega
 have h2:=zj (cs:=QF s) (size:=1) s.length (fun _ _=>rfl) j 0 hlt (by omega)
 rw[Nat.mul_one,Nat.add_zero]at h2
 rw[h2]at hj
 have:Value.bool (inS s j)=u:=by simpa[QF]using hj
 rw[zk,Nat.zero_add,←this]
 exact h.cell j hlt
theorem XK (g c:Nat) (s:SetL) (w:World) (h:SetAt w g s) (hs:s.length≤1000) :
  Calls Tryz.prog 116 #[.slice (some ⟨g,0,none⟩) s.length c] w fun e w'=>∃g' c',e = .returned (.slice (some ⟨g',0,none⟩) s.length c')∧w.heap.size≤g'∧SetAt w' g' s∧Below w.heap.size w w':=by
 obtain⟨i1,k1,k2,k3,k4⟩:=info_parts ZI
 have he:∀w:World,(binOp .eql 169 (.slice (some ⟨g,0,none⟩) s.length c) (.slice none 0 0)).run Tryz.prog w = .ok (.bool false) w:=fun _=>rfl
 have HT:=q7 h
 rcases Nat.eq_zero_or_pos s.length with h0|h0
 ·rw[h0]at he ⊢
  have HZ:=q7 h0
  clear h h0
  go_enter Tryz.func116,Tryz.ntmps116
  go_wp2_with (at_builtin;refine wpList_append_row rfl (.tmp 5) (.tmp 6) 169 rfl 4 i1 1 Tryz.underlying169 k1 k3 w.heap.size 0 0 #[] rfl ⟨qm _ _,rfl,by decide⟩ ⟨g,0,none⟩ 0 c [] rfl rfl (by simp) (by simp) (by omega) ?_)
  go_ret
  refine⟨w.heap.size,0,rfl,Nat.le_refl _,?_,?_⟩
  ·exact⟨⟨_,setRow_heap _ _ _ _ _ _ (qm _ _)⟩,fun i hi=>by have:=HZ.out;omega⟩
  exact((Below.refl _ w).alloc (Nat.le_refl _) _).trans ((RowAt.keep (e:=4) (cap:=0) (size:=1) (cur:=#[]) ⟨qm _ _,rfl,by decide⟩ _).below (by simp) fun i e=>by(have e:i=w.heap.size:=e);omega)
 have hpos:=h0
 clear h h0
 go_enter Tryz.func116,Tryz.ntmps116
 go_wp2_with (at_builtin;refine wpList_append_own _ rfl (.tmp 5) (.tmp 6) 169 rfl w.heap.size 4 i1 _ 1 1 Tryz.underlying169 k1 k2 k3 k4 rfl (by decide) _ 0 [] rfl ?c0 ⟨g,0,none⟩ s.length c ((List.range s.length).flatMap (QF s)) rfl ?c1 ?c2 ?c3 ?c4 ?c5 ?c6 ?_)
 case c0=>exact ja (qm _ _) (Nat.le_refl _)
 case c1=>rw[qE (size:=1) _ fun _ _=>rfl]
 case c2=>exact VS s (HT.out.below ((Below.refl _ w).alloc (Nat.le_refl _) _))
 case c3=>exact xr fun i _ u hu=>by rw[List.mem_singleton.1 hu];rfl
 case c4=>unfold maxLen;omega
 case c5=>omega
 case c6=>simp
 intro v' w' hown hg _
 have hw:v'.ownBlock≠none∧∀g',v'.ownBlock=some g'→∃cap cur,v' = .slice (some ⟨g',0,none⟩) s.length cap∧w.heap.size≤g'∧w'.heap[g']?=some (.cells cur 4 (0,0))∧cur.toList.take s.length=(List.range s.length).flatMap (QF s):=by
  rcases hown.2 with⟨h1,h2⟩|⟨g',cap,cur,h1,h2,h3,_,_,_,h4⟩
  ·omega
  rw[h1]
  refine⟨fun e=>(by cases e),fun g2 e=>?_⟩
  cases e
  refine⟨cap,cur,?_,h2,h3,?_⟩
  ·simp
  simpa using h4
 obtain⟨g',hg'⟩:∃g',v'.ownBlock=some g':=by
  cases e:v'.ownBlock with
  | none=>exact absurd e hw.1
  | some g'=>exact⟨g',rfl⟩
 obtain⟨cap,cur,rfl,h2,h3,h4⟩:=hw.2 g' hg'
 have HS:Hid (SetAt w' g' s):=q7 ⟨⟨_,h3⟩,fun i hi=>by
  have h5:=zj (cs:=QF s) (size:=1) s.length (fun _ _=>rfl) i 0 hi (by omega)
  rw[←h4,Nat.mul_one,Nat.add_zero,List.getElem?_take_of_lt hi,Array.getElem?_toList]at h5
  rw[cell_of_row w' g' i cur _ (0,0) h3,h5]
  rfl⟩
 have HB:Hid (Below w.heap.size w w'):=q7 (Below.grown bZ hg (by simp) (fun b e=>by cases e;exact Nat.le_refl _))
 clear hown hg hw hg' h3 h4
 go_wp2
 go_ret
 exact⟨g',cap,rfl,h2,HS.out,HB.out⟩
end Go.Proofs.YtecdphhdmjmmnaaGreatDoor
namespace Go.Proofs
open Go.Shelf Go.Sort Go.RowKit Go.Lib
end Go.Proofs
namespace Go.Proofs.YtecdphhdmjmmnaaGreatDoor
open Go.RowKit Go.Shelf Go.Lib Go.Sort

theorem idxI_at {xs:List Int} {x:Int} {k:Nat} (hk:k<xs.length) (h:xs[k]=x) (hv:∀j (h:j<xs.length),j<k→xs[j]≠x):xs.idxOf x=k:=by
 have h1:xs.idxOf x<xs.length:=List.idxOf_lt_length_iff.2 (h ▸ List.getElem_mem hk)
 have h2:xs[xs.idxOf x]=x:=List.getElem_idxOf h1
 rcases Nat.lt_trichotomy (xs.idxOf x) k with g|g|g
 ·exact absurd h2 (hv _ h1 g)
 ·exact g
 have:=List.not_of_lt_findIdx (p:=(· == x)) (xs:=xs) (i:=k) g
 simp[h]at this
theorem VT (xs:List Int) (p:Option Addr) (c:Nat) (x:Int) (w:World) (hn:xs.length≤1000000) (h:SliceAt w 1 ju p xs) :
  Calls Tryz.prog 124 #[.slice p xs.length c,.int .i64 x] w fun e w'=>e = .returned (.int .i64 (if x∈xs then(xs.idxOf x:Int)else -1))∧w'=w:=by
 have HC:=q7 h
 clear h
 obtain⟨R,hR⟩:∃R:Int,R=if x∈xs then(xs.idxOf x:Int)else -1:=⟨_,rfl⟩
 rw[←hR]
 have HR:=q7 hR
 clear hR
 go_enter Tryz.func124,Tryz.ntmps124
 go_wp2
 go_loop [8] (fun i=>∃k:Nat,k≤xs.length∧i = .int .i64 k∧∀j (h:j<xs.length),j<k→xs[j]≠x) (fun i=>xs.length - (intOf i).toNat)
 case atStart=>exact⟨0,by omega,rfl,fun j _ hj=>by omega⟩
 case round=>
  obtain⟨k,hk,rfl,hV⟩:=hrel
  have HV:=q7 hV
  clear hV
  by_cases hlt:k<xs.length
  ·obtain⟨b,o,hp,c0,hdS⟩:=ZY HC.out (Below.refl _ w) hlt
   subst hp
   have Hlt:=q7 hlt
   have HI:=q7 hdS
   clear hdS
   by_cases he:xs[k]=x
   ·have HE:=q7 he
    have hq:(x == xs[k])=true:=by simp[he]
    clear he
    go_wp2
    go_ret
    refine⟨?_,rfl⟩
    rw[HR.out,if_pos (HE.out ▸ List.getElem_mem Hlt.out),idxI_at Hlt.out HE.out HV.out]
    rfl
   have HE:=q7 he
   have hq:(x == xs[k])=false:=by rw[beq_eq_false_iff_ne];exact fun e=>he e.symm
   clear he
   go_wp2
   refine⟨⟨k+1,by omega,by go_num,fun j h1 hj=>?_⟩,by simp[intOf];omega⟩
   by_cases hj2:j<k
   ·exact HV.out j h1 hj2
   obtain rfl:j=k:=by omega
   exact HE.out
  have hno:x∉xs:=fun hx=>by
   obtain⟨j,hj,e⟩:=List.mem_iff_getElem.1 hx
   exact HV.out j hj (by omega) e
  have HNo:=q7 hno
  clear hno
  go_wp2
  go_ret
  refine⟨?_,rfl⟩
  rw[HR.out,if_neg HNo.out]
  rfl
theorem SlO.rowI {w:World} {v:Value} {xs:List Int} {S:Blks} (h:SlO 3 1 Qe w v xs S):w.ownsRow 0 3 1 v xs.length (xs.map (.int .i64))∧(∀x∈xs,I64 x)∧(∀g,v.ownBlock=some g→S g)∧InB w S:=by
 obtain⟨cs,T,h⟩:=h
 refine⟨?_,fun x hx=>?_,h.blk,h.inb⟩
 ·have:=h.own
  have e:(List.range xs.length).flatMap cs=xs.map (.int .i64):=by
   refine List.ext_getElem? fun j=>?_
   have hl:=qE xs.length h.len
   rcases Nat.lt_or_ge j xs.length with g|g
   ·have h2:=zj (size:=1) xs.length h.len j 0 g (by omega)
    rw[Nat.mul_one,Nat.add_zero]at h2
    rw[h2,(h.el j g).1]
    simp[g]
   rw[List.getElem?_eq_none (by rw[hl];omega),List.getElem?_eq_none (by simpa using g)]
  rwa [e]at this
 obtain⟨i,hi,rfl⟩:=List.getElem_of_mem hx
 exact(h.el i hi).2
theorem SlO.ofRowI {w:World} {v:Value} {xs:List Int} {S:Blks} (h:w.ownsRow 0 3 1 v xs.length (xs.map (.int .i64))) (hx:∀x∈xs,I64 x) (hv:∀g,v.ownBlock=some g→S g) (hS:InB w S):SlO 3 1 Qe w v xs S:=by
 refine⟨fun i=>[.int .i64 (xs.getD i 0)],fun _ _=>False,⟨?_,fun _ _=>rfl,fun i _ u hu=>?_,fun i hi=>⟨?_,hx _ (List.getElem_mem hi)⟩,fun _ _ _ _ _ _ a _=>a,fun _ _ _ _ a=>a,hv,fun _ _ _ a=>a.elim,hS⟩⟩
 ·have e:(List.range xs.length).flatMap (fun i=>[Value.int .i64 (xs.getD i 0)])=xs.map (.int .i64):=by
   refine List.ext_getElem? fun j=>?_
   have hl:=qE (cs:=fun i=>[Value.int .i64 (xs.getD i 0)]) (size:=1) xs.length (fun _ _=>rfl)
   rcases Nat.lt_or_ge j xs.length with g|g
   ·have h2:=zj (cs:=fun i=>[Value.int .i64 (xs.getD i 0)]) (size:=1) xs.length (fun _ _=>rfl) j 0 g (by omega)
    rw[Nat.mul_one,Nat.add_zero]at h2
    rw[h2]
    simp[List.getD,g]
   rw[List.getElem?_eq_none (by rw[hl];omega),List.getElem?_eq_none (by simpa using g)]
  rw[e]
  exact h
 ·rw[List.mem_singleton.1 hu];rfl
 simp[List.getD,hi]

end Go.Proofs.YtecdphhdmjmmnaaGreatDoor
namespace Go.Proofs.YtecdphhdmjmmnaaGreatDoor
open Go.RowKit

structure InsAt (w:World) (L I R:Nat) (ins:List SetL) (gs:Nat→Nat):Prop where
 blk:∃cur,w.heap[I]?=some (.cells cur 169 (0,0))
 cell:∀b,b<ins.length→∃c,w.cell? ⟨I,b,none⟩=some (.slice (some ⟨gs b,0,none⟩) R c)
 set:∀b,b<ins.length→SetAt w (gs b) (ins.getD b [])∧(ins.getD b []).length=R
 low:L≤I∧∀b,b<ins.length→L≤gs b∧gs b≠I
theorem InsAt.lt {w:World} {L I R:Nat} {ins:List SetL} {gs:Nat→Nat} (h:InsAt w L I R ins gs):I<w.heap.size:=by
 obtain⟨_,h⟩:=h.blk
 exact q9 h
theorem InsAt.below {w w':World} {L I R:Nat} {ins:List SetL} {gs:Nat→Nat} (h:InsAt w L I R ins gs) (hb:Below w.heap.size w w'):InsAt w' L I R ins gs:=
 ⟨by rw[hb.block I h.lt];exact h.blk,fun b hb2=>by
  obtain⟨c,hc⟩:=h.cell b hb2
  exact⟨c,(hb.cell (p:=⟨I,b,none⟩) h.lt).trans hc⟩,fun b hb2=>⟨(h.set b hb2).1.below hb,(h.set b hb2).2⟩,h.low⟩
def AhdAt (w:World) (A n:Nat):Prop:=∀t,t<n→∃p c ws,w.cell? ⟨A,t,none⟩=some (.slice p (List.length ws) c)∧ws.length≤1000000∧SliceAt w 1 ju p ws
theorem AhdAt.below {w w':World} {A n:Nat} (h:AhdAt w A n) (hb:Below w.heap.size w w'):AhdAt w' A n:=fun t ht=>by
 obtain⟨p,c,ws,h1,h2,h3⟩:=h t ht
 exact⟨p,c,ws,(hb.cell (p:=⟨A,t,none⟩) (q8 h1)).trans h1,h2,h3.mono hb (by omega) fun _ _ h=>h⟩
def orS (R k:Nat) (s t:SetL):SetL:=(List.range R).map fun r=>inS s r || (decide (r<k)&&inS t r)
theorem QG {R:Nat} {u:Nat→Bool} {r:Nat} (h:r<R):inS ((List.range R).map u) r=u r:=by
 unfold inS
 rw[List.getD_eq_getElem?_getD,List.getElem?_eq_getElem (by simpa using h)]
 simp
theorem Jp {s t:SetL} (hl:s.length=t.length) (h:∀r,r<s.length→inS s r=inS t r):s=t:=List.ext_getElem hl fun i h1 h2=>by
 have:=h i h1
 unfold inS at this
 rw[List.getD_eq_getElem?_getD,List.getD_eq_getElem?_getD,List.getElem?_eq_getElem h1,List.getElem?_eq_getElem h2]at this
 exact this
theorem jU (R k:Nat) (s t:SetL):(orS R k s t).length=R:=by simp[orS]
theorem orS_zero {R:Nat} {s t:SetL} (h:s.length=R):orS R 0 s t=s:=Jp (by rw[jU,h]) fun r hr=>by
 rw[jU]at hr
 unfold orS
 rw[QG hr]
 simp
theorem orS_succ {R k:Nat} {s t:SetL} (h:k<R):(orS R k s t).set k (inS (orS R k s t) k || inS t k)=orS R (k+1) s t:=Jp (by simp[jU]) fun r hr=>by
 rw[List.length_set,jU]at hr
 rw[QA,jU]
 unfold orS
 rw[QG hr,QG h,QG hr]
 by_cases e:k=r
 ·subst e
  simp[h]
 have:decide (r<k+1)=decide (r<k):=by rw[decide_eq_decide];omega
 rw[if_neg (fun h=>e h.1),this]
theorem orS_all {R:Nat} {ins:List SetL} {ts:List Int} {i:Nat} (hi:i<ts.length):orS R R (Qz R ins (ts.take i)) (ins.getD ts[i].toNat [])=Qz R ins (ts.take (i+1)):=Jp (by rw[jU,xd]) fun r hr=>by
 rw[jU]at hr
 unfold orS
 rw[QG hr,QB,QB,List.take_succ_eq_append_getElem hi,List.any_append]
 simp[hr]

theorem VU (f:FunL) (R b:Nat) (fp:Option Addr) (fc A I ic L:Nat) (ins:List SetL) (gs:Nat→Nat) (w:World) (hR:f.regs=R) (hRb:R≤100) (hb:b<f.blocks.length) (hn:f.blocks.length≤40) (hF:SliceAt w 6 (BlkR w) fp f.blocks) (hph:∀x∈f.blocks,x.phis=[]) (hts:∀t∈f.blocks[b].fin.to,1≤t∧t<(f.blocks.length:Int)) (htl:f.blocks[b].fin.to.length≤2) (hA:AhdAt w A f.blocks.length) (hI:InsAt w L I R ins gs) (hIl:ins.length=f.blocks.length) :
  Calls Tryz.prog 115 #[.agg #[.string f.name,.int .i64 f.params,.int .i64 f.regs,.slice fp f.blocks.length fc],.slice (some ⟨A,0,none⟩) f.blocks.length f.blocks.length,.slice (some ⟨I,0,none⟩) f.blocks.length ic,.int .i64 b] w fun e w'=>e = .returned (.slice (some ⟨w.heap.size+1,0,none⟩) R R)∧SetAt w' (w.heap.size+1) (Qz R ins f.blocks[b].fin.to)∧Below w.heap.size w w':=by
 obtain⟨i1,k1,k2,k3,k4⟩:=info_parts ZI
 have hmk:=run_make_row 169 4 i1 (.bool false) Tryz.underlying169 k1 k2 k3 rfl .i64 .i64 R (by rw[k4];omega) (by omega)
 have HF:=q7 hF
 have HPh:=q7 hph
 have HTs:=q7 hts
 have hAz:0<f.blocks.length:=by omega
 have hA0:A<w.heap.size:=by obtain⟨_,_,_,h,_⟩:=hA 0 hAz;exact q8 h
 have HA:=q7 hA
 have HI:=q7 hI
 have HIl:=q7 hIl
 obtain⟨bb,bo,q1,c1,q2,c2,q3,c3,hp,e0,e1,e2,e3,e4,e5,_,_,_,_,_,_,_,hto⟩:=zp hF (Below.refl _ _) hb
 subst hp
 have bz:=q8 e0
 have HTo:=q7 hto
 generalize hg:f.blocks[b].fin.to=ts at *
 have h0:(f.blocks[b].phis.length:Int)=0:=by rw[hph _ (List.getElem_mem hb)];rfl
 have HF0:=q7 h0
 clear hF hph hts hA hI hto hg hIl h0
 rw[hR]
 clear hR
 go_enter Tryz.func115,Tryz.ntmps115
 go_wp2_with fail
 obtain⟨W0,hW0⟩:∃W0,W0=(((w.alloc (.cells #[.string f.name,.int .i64 f.params,.int .i64 R,.slice (some ⟨bb,bo,none⟩) f.blocks.length fc] 37)).alloc (.cells (madeCells #[.bool false] R) 4)).alloc (.cells #[.slice q1 f.blocks[b].phis.length c1,.slice q2 f.blocks[b].list.length c2,.int .i64 f.blocks[b].fin.kind,.bool f.blocks[b].fin.onr,.int .i64 f.blocks[b].fin.onn,.slice q3 ts.length c3] 48)):=⟨_,rfl⟩
 rw[←hW0]
 have hz0:W0.heap.size=w.heap.size+1+1+1:=by rw[hW0];simp
 have hb0:Below w.heap.size w W0:=by rw[hW0];exact bZ
 have hFb:W0.heap[w.heap.size]?=some (.cells #[.string f.name,.int .i64 f.params,.int .i64 R,.slice (some ⟨bb,bo,none⟩) f.blocks.length fc] 37 (0,0)):=by rw[hW0];exact qj (qj (qh rfl))
 have hS0:SetAt W0 (w.heap.size+1) (Qz R ins []):=by
  have h1:=World.rowIs_made (w.alloc (.cells #[.string f.name,.int .i64 f.params,.int .i64 R,.slice (some ⟨bb,bo,none⟩) f.blocks.length fc] 37)) (.bool false) R 4
  have e1:(w.alloc (.cells #[.string f.name,.int .i64 f.params,.int .i64 R,.slice (some ⟨bb,bo,none⟩) f.blocks.length fc] 37)).heap.size=w.heap.size+1:=by simp
  rw[e1]at h1
  have h2:=h1.alloc (.cells #[.slice q1 f.blocks[b].phis.length c1,.slice q2 f.blocks[b].list.length c2,.int .i64 f.blocks[b].fin.kind,.bool f.blocks[b].fin.onr,.int .i64 f.blocks[b].fin.onn,.slice q3 ts.length c3] 48)
  rw[←hW0]at h2
  refine⟨?_,fun r hr=>?_⟩
  ·obtain⟨cs,hcs⟩:=h2
   exact⟨cs,hcs.1⟩
  rw[xd]at hr
  rw[h2.cell hr,QB]
  simp
 have HB0:=q7 hb0
 have HFb:=q7 hFb
 have HS0:=q7 hS0
 clear hW0 hb0 hFb hS0 hmk e0 e1 e2 e3 e4 e5
 go_loopg [31] ts.length (fun m s wr=>∃i:Nat,i≤ts.length∧m=ts.length - i∧s = .int .i64 i∧SetAt wr (w.heap.size+1) (Qz R ins (ts.take i))∧Below (w.heap.size+1) W0 wr)
 case atStart=>exact⟨0,by omega,rfl,rfl,HS0.out,Below.refl _ _⟩
 case round=>
  obtain⟨wp,hwp⟩:∃wp,wp=wr:=⟨_,rfl⟩
  subst hwp
  obtain⟨i,hi,rfl,rfl,hs,hb⟩:=hrel
  have HS:=q7 hs
  have HB:=q7 hb
  have hbw:Below w.heap.size w wp:=HB0.out.trans (hb.mono (by omega))
  have HBw:=q7 hbw
  have hzp:=hb.size
  have hFp:=(hb.block w.heap.size (by omega)).trans HFb.out
  have f3:wp.cell? ⟨w.heap.size,3,none⟩=some (.slice (some ⟨bb,bo,none⟩) f.blocks.length fc):=(blk hFp).1 3
  have fz:=q9 hFp
  clear hs hb hbw
  by_cases hlt:i<ts.length
  rotate_left
  ·obtain rfl:i=ts.length:=by omega
   have hfin:=HS.out
   rw[List.take_length]at hfin
   have HFin:=q7 hfin
   clear hfin f3
   go_wp2_with fail
   go_ret
   exact⟨rfl,HFin.out,HBw.out⟩
  have hti:=HTs.out _ (List.getElem_mem hlt)
  obtain⟨t,ht⟩:∃t:Nat,ts[i]=(t:Int):=⟨ts[i].toNat,by omega⟩
  have htn:t<f.blocks.length:=by omega
  obtain⟨tb,tp,hq3,ct,_⟩:=ZY HTo.out HBw.out hlt
  subst hq3
  rw[ht]at ct
  have tz:=q8 ct
  obtain⟨b2,o2,p1,d1,p2,d2,p3,d3,hp2,g0,g1,g2,g3,g4,g5,_⟩:=zp HF.out HBw.out htn
  obtain⟨rfl,rfl⟩:bb=b2∧bo=o2:=by cases hp2;exact⟨rfl,rfl⟩
  have hjU:f.blocks[t].phis.length=0:=by rw[HPh.out _ (List.getElem_mem htn)];rfl
  rw[hjU]at g0
  have HIw:=q7 (HI.out.below HBw.out)
  have hfN:t<ins.length:=by have:=HIl.out;omega
  obtain⟨ci,hci⟩:=HIw.out.cell t hfN
  obtain⟨hst,hjV⟩:=HIw.out.set t hfN
  have hlo:=HIw.out.low.2 t hfN
  have iz:=HIw.out.lt
  obtain⟨pa,ca,ws,ha0,ha2,ha3⟩:=HA.out t htn
  have ha1:wp.cell? ⟨A,t,none⟩=some (.slice pa ws.length ca):=(HBw.out.cell (p:=⟨A,t,none⟩) hA0).trans ha0
  have az:=q8 ha1
  have HT:=q7 ht
  have t0:(0:Int)≤(t:Int):=by omega
  have t1:(t:Int)<f.blocks.length:=by omega
  have HSt:=q7 (And.intro hst hjV)
  have HA3:=q7 ha3
  have bbz:=q8 g0
  clear hst hjV ha3 hti ht hjU ha0
  go_wp2_with fail
  obtain⟨W1,hW1⟩:∃W1,W1=wp.alloc (.cells #[.slice p1 0 d1,.slice p2 f.blocks[t].list.length d2,.int .i64 f.blocks[t].fin.kind,.bool f.blocks[t].fin.onr,.int .i64 f.blocks[t].fin.onn,.slice p3 f.blocks[t].fin.to.length d3] 48):=⟨_,rfl⟩
  rw[←hW1]
  have hb1:Below wp.heap.size wp W1:=by rw[hW1];exact bZ
  have hT1:W1.heap[wp.heap.size]?=some (.cells #[.slice p1 0 d1,.slice p2 f.blocks[t].list.length d2,.int .i64 f.blocks[t].fin.kind,.bool f.blocks[t].fin.onr,.int .i64 f.blocks[t].fin.onn,.slice p3 f.blocks[t].fin.to.length d3] 48 (0,0)):=by rw[hW1];exact qh rfl
  have hz1:W1.heap.size=wp.heap.size+1:=by rw[hW1];simp
  have HB1:=q7 hb1
  have HT1:=q7 hT1
  have HS1:=q7 (HS.out.below hb1)
  have HR1:=q7 (HSt.out.1.below hb1)
  have HIx:=q7 (And.intro ha1 ha2)
  have hgn:gs t≠w.heap.size+1:=by have:=(HI.out.set t hfN).1.lt;omega
  clear hW1 hb1 hT1 g0 g1 g2 g3 g4 g5 hci ct f3 ha1
  go_loopg [45] R (fun m s wr=>∃r:Nat,r≤R∧m=R - r∧s = .int .i64 r∧SetAt wr (w.heap.size+1) (orS R r (Qz R ins (ts.take i)) (ins.getD t []))∧Kept (fun b=>b=w.heap.size+1) W1 wr)
  case atStart=>exact⟨0,by omega,rfl,rfl,by rw[orS_zero (xd _ _ _)];exact HS1.out,Kept.refl _ _⟩
  case round=>
   obtain⟨wq,hwq⟩:∃wq,wq=wr:=⟨_,rfl⟩
   subst hwq
   obtain⟨r,hr,rfl,rfl,hs,hk⟩:=hrel
   have HSr:=q7 hs
   have HK:=q7 hk
   have hzq:=hk.size
   clear hs hk
   by_cases hrt:r<R
   ·obtain⟨a,ha⟩:∃a,a=inS (orS R r (Qz R ins (ts.take i)) (ins.getD t [])) r:=⟨_,rfl⟩
    obtain⟨z,hz⟩:∃z,z=inS (ins.getD t []) r:=⟨_,rfl⟩
    have ea:wq.cell? ⟨w.heap.size+1,r,none⟩=some (.bool a):=by rw[ha];exact HSr.out.cell r (by rw[jU];exact hrt)
    have ez:wq.cell? ⟨gs t,r,none⟩=some (.bool z):=by
     rw[hz]
     refine(HK.out.cell (p:=⟨gs t,r,none⟩) HR1.out.lt hgn).trans (HR1.out.cell r (by rw[HSt.out.2];exact hrt))
    have fa:=HSr.out.frozen r
    have za:=q8 ea
    have zz:=q8 ez
    have r0:(0:Int)≤(r:Int):=by omega
    have r1:(r:Int)<R:=by omega
    have hnx:SetAt (wq.setCell ⟨w.heap.size+1,r,none⟩ (.bool (a || z))) (w.heap.size+1) (orS R (r+1) (Qz R ins (ts.take i)) (ins.getD t [])):=by
     rw[←orS_succ hrt,←ha,←hz]
     exact HSr.out.set r _
    have HNx:=q7 hnx
    clear ha hz hnx
    cases a
    ·go_wp2_with fail
     go_roundg (R - (r+1))
     case measure=>omega
     case rel=>exact⟨r+1,by omega,rfl,by go_num,HNx.out,HK.out.setCell (p:=⟨w.heap.size+1,r,none⟩) rfl _⟩
    go_wp2_with fail
    go_roundg (R - (r+1))
    case measure=>omega
    case rel=>exact⟨r+1,by omega,rfl,by go_num,HNx.out,HK.out.setCell (p:=⟨w.heap.size+1,r,none⟩) rfl _⟩
   obtain rfl:r=R:=by omega
   have hhA:=HSr.out
   have hor:=orS_all (R:=r) (ins:=ins) hlt
   rw[HT.out,Int.toNat_natCast]at hor
   rw[hor]at hhA
   have hbq:Below w.heap.size w wq:=(HBw.out.trans (HB1.out.mono HBw.out.size)).trans (HK.out.below (by omega) fun i e=>by(have e:i=w.heap.size+1:=e);omega)
   have gA:wq.cell? ⟨A,t,none⟩=some (.slice pa ws.length ca):=(HK.out.cell (p:=⟨A,t,none⟩) (by show A<_;omega) (by show ¬ A=_;omega)).trans ((HB1.out.cell (p:=⟨A,t,none⟩) az).trans HIx.out.1)
   have gT:=(HK.out.block wp.heap.size (by omega) (by omega)).trans HT1.out
   have gT0:wq.cell? ⟨wp.heap.size,0,none⟩=some (.slice p1 0 d1):=(blk gT).1 0
   have gTz:=q9 gT
   have gAz:=q8 gA
   have hix:=VT ws pa ca (b:Int) wq ha2 (HA3.out.mono hbq (by omega) fun _ _ h=>h)
   obtain⟨K,hK⟩:∃K:Int,K=if(b:Int)∈ws then(ws.idxOf (b:Int):Int)else -1:=⟨_,rfl⟩
   rw[←hK]at hix
   have HIX:=q7 hix
   have HOr:=q7 hhA
   have HBq:=q7 (HB.out.trans ((HB1.out.mono (by omega)).trans (HK.out.below (by omega) fun i e=>by(have e:i=w.heap.size+1:=e);omega)))
   clear hix hK hhA hor hbq gT
   go_wp2_with (go_at_call 124;refine HIX.out.mono ?_;rintro e w2 ⟨rfl,rfl⟩)
   obtain⟨W2,hW2⟩:∃W2,W2=w2:=⟨_,rfl⟩
   subst hW2
   clear gA gT0 gTz gAz
   go_loopg [70] 0 (fun m s wr=>m=0∧s = .int .i64 0∧wr=W2)
   case atStart=>exact⟨rfl,rfl,rfl⟩
   case round=>
    obtain⟨rfl,rfl,rfl⟩:=hrel
    go_wp2_with fail
    go_roundg (ts.length - (i+1))
    case measure=>omega
    case rel=>exact⟨i+1,by omega,rfl,by go_num,HOr.out,HBq.out⟩

theorem xD (nm:ByteArray) (params regs:Int) (bb bo bc n:Nat) (TS:List (List Int)) (w:World) (hn:n≤40)
  (hB:∀i,i<n→XZ w bb bo i (TS.getD i []))
  (hE:∀i,i<n→(TS.getD i []).length≤2∧∀t∈TS.getD i [],1≤t∧t<n) :
  Calls Tryz.prog 101 #[.agg #[.string nm,.int .i64 params,.int .i64 regs,.slice (some ⟨bb,bo,none⟩) n bc]] w fun e w'=>
   (∃f:Nat→Value,e = .returned (.slice (some ⟨w.heap.size+1,0,none⟩) n n)∧Rows2 w' (w.heap.size+1+1) (w.heap.size+1) n 44 3 (qG TS n) f)∧Below w.heap.size w w':=by
 obtain⟨i1,k1,k2,k3,k4⟩:=info_parts XY
 obtain⟨i2,l1,l2,l3,l4⟩:=info_parts JG
 have hmk:=run_make_row 59 44 i2 (.slice none 0 0) X1 l1 l2 l3 rfl .i64 .i64 n (by rw[l4];omega) (by omega)
 have HB:Hid (∀i,i<n→XZ w bb bo i (TS.getD i [])):=hB
 have HE:Hid (∀i,i<n→(TS.getD i []).length≤2∧∀t∈TS.getD i [],1≤t∧t<n):=hE
 clear hB hE
 go_enter Tryz.func101,Tryz.ntmps101
 go_wp2
 go_loopw [15] (fun i wr=>∃k:Nat,k≤n∧i = .int .i64 k∧(∃f,Rows2 wr (w.heap.size+1+1) (w.heap.size+1) n 44 3 (qG TS k) f)∧Below w.heap.size w wr) (fun i _=>n - (intOf i).toNat)
 case atStart=>exact⟨0,by omega,rfl,⟨_,by have:=Rows2.made (w.alloc (.cells #[.string nm,.int .i64 params,.int .i64 regs,.slice (some ⟨bb,bo,none⟩) n bc] 37)) n 44 3;simpa[qG]using this⟩,by exact bZ⟩
 case round=>
  obtain⟨k,hk,rfl,⟨f,hR⟩,hb⟩:=hrel
  have HBw:Hid (Below w.heap.size w wr):=hb
  have HR:Hid (Rows2 wr (w.heap.size+1+1) (w.heap.size+1) n 44 3 (qG TS k) f):=hR
  have hsz:w.heap.size+1<wr.heap.size:=hR.tab.lt
  clear hb hR
  by_cases hlt:k<n
  rotate_left
  ·go_wp2
   go_ret
   obtain rfl:k=n:=by omega
   exact⟨⟨f,rfl,HR.out⟩,HBw.out⟩
  obtain⟨p1,m1,c1,p2,m2,c2,kk,r,m,p,c,e0,e1,e2,e3,e4,e5,hto⟩:=HB.out k hlt
  have hbb:=q8 e0
  rw[←HBw.out.cell (p:=⟨bb,bo+k*6,none⟩) hbb]at e0
  rw[←HBw.out.cell (p:=⟨bb,bo+k*6+1,none⟩) hbb]at e1
  rw[←HBw.out.cell (p:=⟨bb,bo+k*6+2,none⟩) hbb]at e2
  rw[←HBw.out.cell (p:=⟨bb,bo+k*6+3,none⟩) hbb]at e3
  rw[←HBw.out.cell (p:=⟨bb,bo+k*6+4,none⟩) hbb]at e4
  rw[←HBw.out.cell (p:=⟨bb,bo+k*6+5,none⟩) hbb]at e5
  obtain⟨hl2,hts⟩:=HE.out k hlt
  have HTO:Hid (SliceAt w 1 ju p (TS.getD k [])):=hto
  have HTS:Hid (∀t∈TS.getD k [],1≤t∧t<n):=hts
  clear hto hts
  generalize hto:TS.getD k []=tq at *
  have HK:Hid (TS.getD k []=tq):=hto
  clear hto
  go_wp2
  go_loopw [24] (fun i wq=>∃j:Nat,j≤tq.length∧i = .int .i64 j∧(∃f,Rows2 wq (w.heap.size+1+1) (w.heap.size+1) n 44 3 (qG TS k++(tq.map fun t=>(t.toNat,k)).take j) f)∧Below w.heap.size w wq) (fun i _=>tq.length - (intOf i).toNat)
  case atStart=>exact⟨0,by omega,rfl,⟨f,by simpa using HR.out.alloc _⟩,by have:=HBw.out;exact this.alloc (by omega) _⟩
  case round=>
   clear HR HBw e0 e1 e2 e3 e4 e5
   obtain⟨j,hj,rfl,⟨f,hR⟩,hb⟩:=hrel
   have HBw:Hid (Below w.heap.size w wr):=hb
   have HR:Hid (Rows2 wr (w.heap.size+1+1) (w.heap.size+1) n 44 3 (qG TS k++(tq.map fun t=>(t.toNat,k)).take j) f):=hR
   have hsz:w.heap.size+1<wr.heap.size:=hR.tab.lt
   clear hb hR
   by_cases hjl:j<tq.length
   rotate_left
   ·go_wp2
    obtain rfl:j=tq.length:=by omega
    refine⟨⟨k+1,by omega,by go_num,⟨f,?_⟩,HBw.out⟩,by simp[intOf];omega⟩
    have HR2:=HR.out
    rw[List.take_of_length_le (by simp)]at HR2
    unfold qG
    rw[HK.out]
    exact HR2
   obtain⟨t,ht⟩:∃t:Nat,tq[j]=(t:Int):=⟨tq[j].toNat,by have:=(HTS.out _ (List.getElem_mem hjl)).1;omega⟩
   have htn:t<n:=by have:=(HTS.out _ (List.getElem_mem hjl)).2;omega
   obtain⟨tb,tof,hp,htc⟩:∃tb tof,p=some ⟨tb,tof,none⟩∧wr.cell? ⟨tb,tof+j,none⟩=some (.int .i64 t):=by
    rcases HTO.out with h0|⟨tb,tof,hp,hc⟩
    ·rw[h0]at hjl;simp at hjl
    refine⟨tb,tof,hp,?_⟩
    obtain⟨cs,_,hc,⟨rfl,_⟩⟩:=hc j hjl
    have h2:=hc 0 (by omega)
    simp only[Nat.mul_one,Nat.add_zero,List.getElem?_cons_zero]at h2
    rw[HBw.out.cell (p:=⟨tb,tof+j,none⟩) (q8 h2),h2,ht]
   subst hp
   have hrow:=HR.out.row t htn
   obtain⟨q,qc,hq⟩:∃q qc,f t = .slice q (qN (qG TS k++(tq.map fun t=>(t.toNat,k)).take j) t).length qc:=by
    rcases hrow.2 with⟨h1,h2⟩|⟨g,cap,cur,h1,_⟩
    ·refine⟨none,0,?_⟩
     rw[h1,h2]
    exact⟨_,_,h1⟩
   have HQ:Hid (f t = .slice q (qN (qG TS k++(tq.map fun t=>(t.toNat,k)).take j) t).length qc):=hq
   have hfc:=HR.out.tab.cell htn
   have hff:=HR.out.tab.frozen t
   rw[hq]at hfc hrow
   clear hq
   have HT:Hid (tq[j]?=some (t:Int)):=by show _=_;rw[List.getElem?_eq_getElem hjl,ht]
   clear ht
   have hm2:(qN (qG TS k++(tq.map fun t=>(t.toNat,k)).take j) t).length≤2*k+2:=by
    have h1:=kY (qG TS k++(tq.map fun t=>(t.toNat,k)).take j) t
    have h2:=vV TS k n hk (fun i hi=>(HE.out i hi).1)
    rw[List.length_append,List.length_take,List.length_map]at h1
    omega
   generalize hm:(qN (qG TS k++(tq.map fun t=>(t.toNat,k)).take j) t).length=m at *
   have HM:Hid ((qN (qG TS k++(tq.map fun t=>(t.toNat,k)).take j) t).length=m):=hm
   clear hm
   go_wp2_with (at_builtin;refine wpList_append_own_at _ rfl _ _ 44 rfl (w.heap.size+1+1) 3 i1 (.int .i64 0) 1 8 X0 k1 k2 k3 k4 rfl (by decide) _ _ _ rfl (hrow.alloc _) ⟨wr.heap.size,0,none⟩ 1 1 [.int .i64 k] rfl rfl (cell_one_new _ _ _) (by simp[Value.oneCell']) ?_ ?_ ?_ ?_)
   ·unfold maxLen;omega
   ·omega
   ·simp;omega
   intro v' w1 hown' hgrow _ hat
   have HP:=(HR.out.alloc (.cells #[.int .i64 k] 3)).put (i:=k) (by simp;omega) htn (v':=v') (w':=w1) (by rw[HM.out];exact hown') (by rw[HQ.out];exact hgrow) (by rw[HQ.out];simpa using hat)
   obtain⟨q2,c2',hv2⟩:∃q2 c2,v' = .slice q2 (m+1) c2:=by
    rcases hown'.2 with⟨h1,h2⟩|⟨g,cap,cur,h1,_⟩
    ·omega
    exact⟨_,_,h1⟩
   subst hv2
   obtain⟨hc1,hf1⟩:=(HR.out.alloc (.cells #[.int .i64 k] 3)).atTab htn (w':=w1) (by rw[HQ.out];exact hgrow)
   rw[HQ.out]at hc1
   have hbw:=(HBw.out.alloc (by omega) (.cells #[.int .i64 k] 3)).grown hgrow (by simp;omega) (fun kk e=>by have:=(hrow.lt kk e).1;omega)
   have HB2:=q7 hbw
   have HP2:=q7 HP
   clear HP hown' hgrow hat hfc hff htc hrow hbw
   go_wp2
   refine⟨⟨j+1,by omega,by go_num,⟨fun i=>if i=t then Value.slice q2 (m+1) c2' else f i,?_⟩,?_⟩,by simp[intOf];omega⟩
   ·rw[List.take_add_one,List.getElem?_map,HT.out]
    have HP3:=HP2.out
    rw[List.append_assoc]at HP3
    exact HP3
   exact HB2.out.setCell (by show _≤w.heap.size+1;omega) _
end Go.Proofs.YtecdphhdmjmmnaaGreatDoor
