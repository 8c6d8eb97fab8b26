/-
  The contract of live.Set's Ahead.
-/
import Derived.Test.YtecdphhdmjmmnaaGreatDoorJTidI
set_option maxRecDepth 100000
set_option maxHeartbeats 16000000
namespace Go.Proofs.YtecdphhdmjmmnaaGreatDoor
open Go.RowKit

abbrev SetL:=List Bool
def inS (s:SetL) (r:Nat):Bool:=s.getD r false
def vY (s:SetL) (v:Bool×Int):SetL:=if v.1=true then s.set v.2.toNat true else s
def XZ (s:SetL) (x:InsL):SetL:=(qL x).foldl vY (if 0≤x.dst then s.set x.dst.toNat false else s)
def QN (R:Nat) (ins:List SetL) (tos:List Int):SetL:=(List.range R).map fun r=>tos.any fun t=>inS (ins.getD t.toNat []) r
def ahiS (s:SetL) (x:BlkL):SetL:=x.list.foldr (fun i s=>XZ s i) (vY s (x.fin.onr,x.fin.onn))
def J0 (f:FunL) (ins:List SetL) (b:Nat):SetL:=ahiS (QN f.regs.toNat ins (atF f b).fin.to) (atF f b)
def kX (f:FunL) (s:List SetL×Bool) (b:Nat):List SetL×Bool:=if J0 f s.1 b=s.1.getD b []then s else(s.1.set b (J0 f s.1 b),true)
def turnTo (f:FunL) (ins:List SetL) (b:Nat):List SetL×Bool:=(List.range b).foldl (kX f) (ins,false)
def turnS (f:FunL) (ins:List SetL):List SetL:=(turnTo f ins f.blocks.length).1
def Q8 (f:FunL):List SetL:=List.replicate f.blocks.length (List.replicate f.regs.toNat false)
def zQ (f:FunL):Nat→List SetL
 | 0=>Q8 f
 | n+1=>turnS f (zQ f n)
def jx (ins:List SetL):Nat:=(ins.map fun s=>s.count false).sum
def jM (f:FunL):List SetL:=zQ f (f.blocks.length*f.regs.toNat)
/-! ## sets grow -/
def LeS (s t:SetL):Prop:=s.length=t.length∧∀r,inS s r=true→inS t r=true
theorem LeS.refl (s:SetL):LeS s s:=⟨rfl,fun _ h=>h⟩
theorem LeS.trans {a b c:SetL} (h:LeS a b) (k:LeS b c):LeS a c:=⟨h.1.trans k.1,fun r g=>k.2 r (h.2 r g)⟩
theorem QO {s:SetL} {i r:Nat} {v:Bool}:inS (s.set i v) r=if i=r∧r<s.length then v else inS s r:=by
 unfold inS
 rw[List.getD_eq_getElem?_getD,List.getD_eq_getElem?_getD,List.getElem?_set]
 by_cases e:i=r
 ·subst e
  by_cases h:i<s.length
  ·simp[h]
  simp[h]
 simp[e]
theorem ky (s:SetL) (v:Bool×Int):(vY s v).length=s.length:=by
 unfold vY
 split<;>simp
theorem jm:∀(l:List (Bool×Int)) (s:SetL),(l.foldl vY s).length=s.length
 | [],_=>rfl
 | v::l,s=>(jm l _).trans (ky s v)
theorem X0 (s:SetL) (x:InsL):(XZ s x).length=s.length:=by
 unfold XZ
 rw[jm]
 split<;>simp
theorem xn (R:Nat) (ins:List SetL) (tos:List Int):(QN R ins tos).length=R:=by simp[QN]
theorem ahiS_len (s:SetL) (x:BlkL):(ahiS s x).length=s.length:=by
 unfold ahiS
 have:∀l:List InsL,(l.foldr (fun i s=>XZ s i) (vY s (x.fin.onr,x.fin.onn))).length=s.length:=by
  intro l
  induction l with
  | nil=>exact ky _ _
  | cons i l ih=>exact(X0 _ _).trans ih
 exact this _
theorem X1 (f:FunL) (ins:List SetL) (b:Nat):(J0 f ins b).length=f.regs.toNat:=(ahiS_len _ _).trans (xn _ _ _)
theorem LeS.set {s t:SetL} (h:LeS s t) (i:Nat) (v:Bool):LeS (s.set i v) (t.set i v):=by
 refine⟨by simp[h.1],fun r g=>?_⟩
 rw[QO]at g ⊢
 rw[←h.1]
 split
 ·next hc=>rwa [if_pos hc]at g
 next hc=>rw[if_neg hc]at g;exact h.2 r g
theorem LeS.tak {s t:SetL} (h:LeS s t) (v:Bool×Int):LeS (vY s v) (vY t v):=by
 unfold vY
 split
 ·exact h.set _ _
 exact h
theorem LeS.taks:∀(l:List (Bool×Int)) {s t:SetL},LeS s t→LeS (l.foldl vY s) (l.foldl vY t)
 | [],_,_,h=>h
 | v::l,_,_,h=>LeS.taks l (h.tak v)
theorem LeS.ahd {s t:SetL} (h:LeS s t) (x:InsL):LeS (XZ s x) (XZ t x):=by
 unfold XZ
 refine LeS.taks _ ?_
 split
 ·exact h.set _ _
 exact h
theorem LeS.ahi {s t:SetL} (h:LeS s t) (x:BlkL):LeS (ahiS s x) (ahiS t x):=by
 unfold ahiS
 have:∀l:List InsL,LeS (l.foldr (fun i s=>XZ s i) (vY s (x.fin.onr,x.fin.onn))) (l.foldr (fun i s=>XZ s i) (vY t (x.fin.onr,x.fin.onn))):=by
  intro l
  induction l with
  | nil=>exact h.tak _
  | cons i l ih=>exact ih.ahd i
 exact this _
def LeR (a b:List SetL):Prop:=a.length=b.length∧∀i,LeS (a.getD i []) (b.getD i [])
theorem LeR.refl (a:List SetL):LeR a a:=⟨rfl,fun _=>.refl _⟩
theorem LeR.trans {a b c:List SetL} (h:LeR a b) (k:LeR b c):LeR a c:=⟨h.1.trans k.1,fun i=>(h.2 i).trans (k.2 i)⟩
theorem QP {R:Nat} {ins:List SetL} {tos:List Int} {r:Nat}:inS (QN R ins tos) r=(decide (r<R)&&tos.any fun t=>inS (ins.getD t.toNat []) r):=by
 by_cases h:r<R
 ·unfold inS QN
  rw[List.getD_eq_getElem?_getD,List.getElem?_eq_getElem (by simpa using h)]
  simp[h,inS]
 unfold inS QN
 rw[List.getD_eq_getElem?_getD,List.getElem?_eq_none (by simpa using h)]
 simp[h]
theorem LeR.beh {a b:List SetL} (h:LeR a b) (R:Nat) (tos:List Int):LeS (QN R a tos) (QN R b tos):=by
 refine⟨by rw[xn,xn],fun r g=>?_⟩
 rw[QP,Bool.and_eq_true,List.any_eq_true]at g ⊢
 obtain⟨g1,t,ht,g2⟩:=g
 exact⟨g1,t,ht,(h.2 _).2 r g2⟩
theorem LeR.ahe {a b:List SetL} (h:LeR a b) (f:FunL) (i:Nat):LeS (J0 f a i) (J0 f b i):=(h.beh _ _).ahi _
structure UpS (f:FunL) (ins:List SetL):Prop where
 len:ins.length=f.blocks.length
 row:∀b,b<ins.length→(ins.getD b []).length=f.regs.toNat
 up:∀b,b<ins.length→LeS (ins.getD b []) (J0 f ins b)
theorem kB {a:List SetL} {i j:Nat} {s:SetL}:(a.set i s).getD j []=if i=j∧j<a.length then s else a.getD j []:=by
 rw[List.getD_eq_getElem?_getD,List.getD_eq_getElem?_getD,List.getElem?_set]
 by_cases e:i=j
 ·subst e
  by_cases h:i<a.length
  ·simp[h]
  simp[h]
 simp[e]
theorem count_le {s t:SetL} (h:LeS s t):t.count false≤s.count false∧(s≠t→t.count false<s.count false):=by
 obtain⟨hl,hr⟩:=h
 induction s generalizing t with
 | nil=>
  cases t with
  | nil=>exact⟨Nat.le_refl _,fun h=>absurd rfl h⟩
  | cons _ _=>simp at hl
 | cons a s ih=>
  cases t with
  | nil=>simp at hl
  | cons b t=>
   have h1:=ih (t:=t) (by simpa using hl) (fun r g=>by simpa[inS]using hr (r+1) (by simpa[inS]using g))
   have h0:=hr 0
   simp only[inS,List.getD_cons_zero]at h0
   have h2:=h1.1
   cases a<;>cases b
   ·simp only[List.count_cons_self,ne_eq,List.cons.injEq,true_and]
    exact⟨by omega,fun e=>by have:=h1.2 e;omega⟩
   ·simp only[List.count_cons_self,List.count_cons_of_ne (by decide:true≠false)]
    exact⟨by omega,fun _=>by omega⟩
   ·exact absurd (h0 rfl) (by decide)
   simp only[List.count_cons_of_ne (by decide:true≠false),ne_eq,List.cons.injEq,true_and]
   exact⟨by omega,fun e=>by have:=h1.2 e;omega⟩
theorem LeR.falses {a b:List SetL} (h:LeR a b):jx b≤jx a∧(a≠b→jx b<jx a):=by
 obtain⟨hl,hr⟩:=h
 induction a generalizing b with
 | nil=>
  cases b with
  | nil=>exact⟨Nat.le_refl _,fun h=>absurd rfl h⟩
  | cons _ _=>simp at hl
 | cons s a ih=>
  cases b with
  | nil=>simp at hl
  | cons t b=>
   have h1:=ih (b:=b) (by simpa using hl) (fun i=>by simpa using hr (i+1))
   have h0:=count_le (by simpa using hr 0:LeS s t)
   unfold jx at h1 ⊢
   simp only[List.map_cons,List.sum_cons]
   refine⟨by omega,fun hne=>?_⟩
   by_cases e:s=t
   ·have:=h1.2 (fun e2=>hne (by rw[e,e2]))
    omega
   have:=h0.2 e
   omega
theorem UpS.step {f:FunL} {s:List SetL×Bool} (h:UpS f s.1) {b:Nat} (hb:b<s.1.length):UpS f (kX f s b).1∧LeR s.1 (kX f s b).1∧((kX f s b).2=true→s.2=true∨s.1≠(kX f s b).1)∧((kX f s b).2=false→s.2=false∧(kX f s b).1=s.1∧J0 f s.1 b=s.1.getD b [])∧(s.2=true→(kX f s b).2=true):=by
 unfold kX
 split
 ·next e=>exact⟨h,.refl _,fun g=>.inl g,fun g=>⟨g,rfl,e⟩,fun g=>g⟩
 next e=>
 have hle:LeR s.1 (s.1.set b (J0 f s.1 b)):=⟨by simp,fun i=>by
  rw[kB]
  split
  ·next hc=>rw[←hc.1];exact h.up b hb
  exact .refl _⟩
 refine⟨⟨by simpa using h.len,fun i hi=>?_,fun i hi=>?_⟩,hle,fun _=>.inr fun e2=>e ?_,fun g=>(by cases g),fun _=>rfl⟩
 ·rw[kB]
  split
  ·exact X1 _ _ _
  exact h.row i (by simpa using hi)
 ·have hi:i<s.1.length:=by simpa using hi
  rw[kB]
  split
  ·next hc=>rw[←hc.1];exact hle.ahe f b
  exact(h.up i hi).trans (hle.ahe f i)
 have e3:(s.1.set b (J0 f s.1 b)).getD b []=J0 f s.1 b:=by rw[kB,if_pos ⟨rfl,hb⟩]
 rw[←e3]
 exact congrArg (fun l=>l.getD b []) e2.symm
theorem QQ (f:FunL) (ins:List SetL) (b:Nat):turnTo f ins (b+1)=kX f (turnTo f ins b) b:=by
 unfold turnTo
 rw[List.range_succ,List.foldl_append]
 rfl
theorem UpS.turnTo {f:FunL} {ins:List SetL} (h:UpS f ins):∀b,b≤ins.length→UpS f (turnTo f ins b).1∧LeR ins (turnTo f ins b).1∧((turnTo f ins b).2=true→jx (turnTo f ins b).1<jx ins)∧((turnTo f ins b).2=false→(turnTo f ins b).1=ins∧∀i,i<b→J0 f ins i=ins.getD i [])
 | 0,_=>⟨h,.refl _,fun g=>(by cases g),fun _=>⟨rfl,fun _ h=>absurd h (by omega)⟩⟩
 | b+1,hb=>by
  obtain⟨h1,h2,h3,h4⟩:=h.turnTo b (by omega)
  obtain⟨g1,g2,g3,g4,g5⟩:=h1.step (b:=b) (by rw[←h2.1];omega)
  rw[QQ]
  have hf:=g2.falses
  have hf0:=h2.falses
  refine⟨g1,h2.trans g2,fun g=>?_,fun g=>?_⟩
  ·rcases g3 g with e|e
   ·have:=h3 e;omega
   have:=hf.2 e;omega
  obtain⟨a1,a2,a3⟩:=g4 g
  obtain⟨b1,b2⟩:=h4 a1
  rw[b1]at a3
  refine⟨a2.trans b1,fun i hi=>?_⟩
  by_cases e:i=b
  ·rw[e];exact a3
  exact b2 i (by omega)
theorem UpS.none (f:FunL):UpS f (Q8 f):=by
 have e:∀b,b<(Q8 f).length→(Q8 f).getD b []=List.replicate f.regs.toNat false:=fun b hb=>by
  unfold Q8 at hb ⊢
  rw[List.length_replicate]at hb
  rw[List.getD_eq_getElem?_getD,List.getElem?_replicate,if_pos hb]
  rfl
 refine⟨by simp[Q8],fun b hb=>by rw[e b hb,List.length_replicate],fun b hb=>⟨by rw[e b hb,X1,List.length_replicate],fun r g=>?_⟩⟩
 rw[e b hb]at g
 exfalso
 unfold inS at g
 rw[List.getD_eq_getElem?_getD,List.getElem?_replicate]at g
 split at g<;>cases g
theorem xJ (f:FunL):∀n,UpS f (zQ f n)
 | 0=>UpS.none f
 | n+1=>((xJ f n).turnTo _ (by rw[(xJ f n).len];exact Nat.le_refl _)).1
theorem K5 (f:FunL):jx (Q8 f)=f.blocks.length*f.regs.toNat:=by
 unfold jx Q8
 rw[List.map_replicate,List.sum_replicate_nat,List.count_replicate_self]
theorem kC {f:FunL} {n:Nat} (h:(turnTo f (zQ f n) f.blocks.length).2=false):∀m,n≤m→zQ f m=zQ f n
 | 0,hm=>by rw[show n=0 by omega]
 | m+1,hm=>by
  by_cases e:n=m+1
  ·rw[e]
  have ih:=kC h m (by omega)
  show turnS f (zQ f m)=_
  rw[ih]
  exact((xJ f n).turnTo _ (by rw[(xJ f n).len];exact Nat.le_refl _)).2.2.2 h |>.1
theorem kY (f:FunL):∀n,(∃m,m<n∧(turnTo f (zQ f m) f.blocks.length).2=false)∨jx (zQ f n)+n≤f.blocks.length*f.regs.toNat
 | 0=>.inr (by rw[show zQ f 0=Q8 f from rfl,K5];omega)
 | n+1=>by
  rcases kY f n with⟨m,hm,h⟩|h
  ·exact .inl ⟨m,by omega,h⟩
  cases e:(turnTo f (zQ f n) f.blocks.length).2 with
  | false=>exact .inl ⟨n,by omega,e⟩
  | true=>
   have:=((xJ f n).turnTo _ (by rw[(xJ f n).len];exact Nat.le_refl _)).2.2.1 e
   have e2:zQ f (n+1)=(turnTo f (zQ f n) f.blocks.length).1:=rfl
   exact .inr (by rw[e2];omega)
theorem Vr {f:FunL} {n:Nat} (h:(turnTo f (zQ f n) f.blocks.length).2=false):zQ f n=jM f:=by
 rcases Nat.le_total n (f.blocks.length*f.regs.toNat)with g|g
 ·exact(kC h _ g).symm
 obtain⟨m,hm,h2⟩:∃m,m≤f.blocks.length*f.regs.toNat∧(turnTo f (zQ f m) f.blocks.length).2=false:=by
  rcases kY f (f.blocks.length*f.regs.toNat+1) with⟨m,hm,h⟩|h
  ·exact⟨m,by omega,h⟩
  omega
 unfold jM
 rw[kC h2 _ hm,kC h2 n (by omega)]
theorem jG (f:FunL):UpS f (jM f)∧∀b,b<f.blocks.length→J0 f (jM f) b=(jM f).getD b []:=by
 obtain⟨m,hm,h2⟩:∃m,m≤f.blocks.length*f.regs.toNat∧(turnTo f (zQ f m) f.blocks.length).2=false:=by
  rcases kY f (f.blocks.length*f.regs.toNat+1) with⟨m,hm,h⟩|h
  ·exact⟨m,by omega,h⟩
  omega
 rw[←Vr h2]
 exact⟨xJ f m,((((xJ f m).turnTo _ (by rw[(xJ f m).len];exact Nat.le_refl _)).2.2.2 h2).2)⟩
def qO (f:FunL):Bool:=f.blocks.all (fun b=>b.phis.isEmpty)&&(List.range f.regs.toNat).all fun r=>!(inS ((jM f).getD 0 []) r) || decide ((r:Int)<f.params)

structure SetAt (w:World) (g:Nat) (s:SetL):Prop where
 blk:∃cur,w.heap[g]?=some (.cells cur 4 (0,0))
 cell:∀i,i<s.length→w.cell? ⟨g,i,none⟩=some (.bool (inS s i))
section
variable {w w' : World} {g : Nat} {s : SetL}
theorem SetAt.lt (h:SetAt w g s):g<w.heap.size:=by
 obtain⟨_,h⟩:=h.blk
 exact q9 h
theorem SetAt.frozen (h:SetAt w g s) (o:Nat):w.frozen? ⟨g,o,none⟩=false:=by
 obtain⟨_,h⟩:=h.blk
 exact(Go.Proofs.YtecdphhdmjmmnaaGreatDoor.blk h).2 o
theorem SetAt.of_block (h:SetAt w g s) (e:w'.heap[g]?=w.heap[g]?):SetAt w' g s:=
 ⟨by rw[e];exact h.blk,fun i hi=>(World.cell?_of_block (a:=⟨g,i,none⟩) e).trans (h.cell i hi)⟩
theorem SetAt.below (h:SetAt w g s) (hb:Below w.heap.size w w'):SetAt w' g s:=h.of_block (hb.block g h.lt)
theorem SetAt.set (h:SetAt w g s) (i:Nat) (b:Bool):SetAt (w.setCell ⟨g,i,none⟩ (.bool b)) g (s.set i b):=by
 obtain⟨cur,hc⟩:=h.blk
 refine⟨⟨_,ZC hc i _⟩,fun j hj=>?_⟩
 rw[List.length_set]at hj
 have h1:=h.cell j hj
 rw[cell_of_row w g j cur 4 (0,0) hc]at h1
 rw[cell_of_row _ g j _ 4 (0,0) (ZC hc i _),Array.getElem?_setIfInBounds,QO]
 by_cases e:i=j
 ·subst e
  have:i<cur.size:=(Array.getElem?_eq_some_iff.1 h1).1
  simp[this,hj]
 simp only[if_neg e]
 rw[h1,if_neg fun hh=>e hh.1]
end

theorem X2 (g c:Nat) (s:SetL) (v:Bool×Int) (w:World) (h:SetAt w g s) (hv:v.1=true→0≤v.2∧v.2<(s.length:Int)) :
  Calls Tryz.prog 117 #[.slice (some ⟨g,0,none⟩) s.length c,.agg #[.bool v.1,.int .i64 v.2]] w fun e w'=>e = .returned (.tuple #[])∧SetAt w' g (vY s v)∧Kept (fun b=>b=g) w w':=by
 obtain⟨a,n⟩:=v
 cases a
 ·have H:=q7 h
  clear h
  go_enter Tryz.func117,Tryz.ntmps117
  go_wp2
  go_end0
  exact⟨rfl,H.out.below bZ,Kept.of_below bZ⟩
 obtain⟨hn0,hn1⟩:=hv rfl
 simp only at hn0 hn1
 obtain⟨k,rfl⟩:∃k:Nat,n=k:=⟨n.toNat,by omega⟩
 have hk:k<s.length:=by omega
 have hc:=h.cell k hk
 have hf:=h.frozen k
 have hz:=h.lt
 have H:=q7 h
 clear h hv
 go_enter Tryz.func117,Tryz.ntmps117
 go_wp2
 go_end0
 exact⟨rfl,(H.out.set k true).below ((Below.refl _ _).alloc (Nat.le_refl _) _),((Kept.refl (fun b=>b=g) w).setCell (p:=⟨g,k,none⟩) rfl _).alloc _⟩
end Go.Proofs.YtecdphhdmjmmnaaGreatDoor
namespace Go.Proofs.YtecdphhdmjmmnaaGreatDoor
open Go.RowKit Go.Shelf

section
variable {F : Fence} {n : Nat} {P : Program} {g : Operand} {ps : Array Tmp} {assign body : Code} {Q : Exit → Act → World → Prop} {a : Act} {w : World} {gf : Nat} {lb : Array Value} {el : Nat → Array Value} {N : Nat} {Kp : World → World → Prop} {w0 : World}
theorem jH (hro:F.round=none) (h1:1≤n) (hg:a.eval g = .func (.func gf) #[] lb) (hFg:F.fn gf) (eg:∀args w,(callFunc gf args).run P w = .ok (.enter gf args) w) (hseq:SeqAt F (n - 1) P gf lb el N Kp w0)
  (hKt:∀{A B C:World},Kp A B→Kp B C→Kp A C) (hKb:∀(W:World) (l:Nat) (o o':Obj),w.heap.size≤l→W.heap[l]?=some o→o.isCells=false→o.isWalk=false→Kp W (W.putObj l o')) (hb0:Below w0.heap.size w0 w) (hps:∀i,i<N→(el i).size=ps.size)
  (I:Nat→World→Prop) (Ix:Code→Nat→World→Prop) (hI:OwnFrom w.heap.size I) (hIx:∀c,OwnFrom w.heap.size (Ix c)) (h0:I 0 w) (M:Nat×Act→World→Prop) (hM:OwnFrom w.heap.size M)
  (hassign:∀(l i:Nat) (W:World) (K:Act→World→Prop),w.heap.size≤l→i<N→I i W→(∀a₁ W₁,M (i,a₁) W₁→KeepsFrom w.heap.size W W₁→Kp W W₁→K a₁ W₁)→assign.wpIn (F.inRound l) (n - 1 - 1) P (Exit.then K (fun _ _ _=>False)) { tmps:=(ps.zip (el i)).foldl (fun t (p,v)=>t.setIfInBounds p v) a.tmps,defers:=[] } W)
  (hbody:∀(l i:Nat) (a₁:Act) (W:World),w.heap.size≤l→i<N→M (i,a₁) W→body.wpIn (F.inRound l) (n - 1 - 1) P (fun e _ W'=>Xx w.heap.size Kp I Ix i W e W') a₁ W)
  (hdone:∀(D:Nat) (W:World),w.heap.size≤D→I N W→W.heap[D]?=some (.deferred (some []))→Q .normal { a with defers:={ target:=.collected D,args:=#[] }::a.defers } W)
  (hstop:∀(D:Nat) (c:Code) (i:Nat) (W:World),w.heap.size≤D→i<N→Ix c i W→W.heap[D]?=some (.deferred (some []))→c.wpIn F n P Q { a with defers:={ target:=.collected D,args:=#[] }::a.defers } W) :
  (Code.rangeFunc g ps assign body).wpIn F n P Q a w:=by
 refine wpIn_rangeFunc fun fn hfn=>?_
 rw[hro]
 -- the record of the loop and the block for what rounds defer: the blocks L and D
 obtain⟨rec,hrec⟩:∃rec:LoopState→Option Code→Loop,rec=fun st pe=>{ state:=st,pending:=pe,fn,tmps:=a.tmps,params:=ps,assign,body,defers:=w.heap.size }:=⟨_,rfl⟩
 have hst:∀st pe,{ rec .ready none with state:=st,pending:=pe }=rec st pe:=fun st pe=>by rw[hrec]
 let Bk:LoopState→Option Code→World→Prop:=fun st pe W=>W.heap[w.heap.size+1]?=some (.loop (rec st pe))∧W.heap[w.heap.size]?=some (.deferred (some []))
 have hew:Bk .ready none ((w.alloc (.deferred (some []))).alloc (.loop (rec .ready none))):=
  ⟨qh (by simp),qj (qr w _)⟩
 have hey:∀{st pe A B row},Bk st pe A→A.grownBy B row→(∀r,row=some r→∃o:Obj,A.heap[r]?=some o∧o.isWalk=true)→Bk st pe B:=fun h hg hr=>
  ⟨(grownBy_keeps hg hr h.1 rfl).trans h.1,(grownBy_keeps hg hr h.2 rfl).trans h.2⟩
 have hbB:∀{st pe st' pe' A},Bk st pe A→Bk st' pe' (A.putObj (w.heap.size+1) (.loop (rec st' pe'))):=fun {st pe st' pe' A} h=>
  ⟨World.putObj_heap_same (q9 h.1),(World.putObj_heap_other (by omega)).trans h.2⟩
 obtain⟨W1,hW1⟩:∃W1,W1=(w.alloc (.deferred (some []))).alloc (.loop (rec .ready none)):=⟨_,rfl⟩
 rw[←hW1]at hew
 have hz1:W1.heap.size=w.heap.size+1+1:=by rw[hW1];simp
 have hent:(Instr.enterLoop fn a.tmps ps assign body none).run P w = .ok (w.heap.size+1,[{ target:=.collected w.heap.size,args:=#[] }]) W1:=by
  rw[hW1,hrec];exact run_enterLoop_outer _ _ _ _ _
 refine⟨w.heap.size+1,[{ target:=.collected w.heap.size,args:=#[] }],W1,{ target:=.fn (.func gf) lb,args:=#[.func (.yield (w.heap.size+1)) #[] #[]] },W1,gf,
  #[.func (.yield (w.heap.size+1)) #[] #[]]++lb,W1,hent,?_,fun f' hf'=>by simp[Target.leads]at hf';subst hf';exact hFg,?_,fun _=>h1,?_⟩
 ·simp only[resolve,hg]
  simp[go_sem]
 ·simp[invoke,go_sem,eg]
 have hbE:∀{A:World} {row:Option Nat},(∀r,row=some r→W1.heap.size≤r∧∃o:Obj,A.heap[r]?=some o∧o.isWalk=true)→∀r,row=some r→w.heap.size≤r∧∃o:Obj,A.heap[r]?=some o∧o.isCells=false:=fun hr r e=>by
  obtain⟨hB,o,ho,hw⟩:=hr r e
  exact⟨by omega,o,ho,Obj.not_cells_of_walk hw⟩
 refine(hseq (w.heap.size+1) (fun i W=>I i W∧Bk .ready none W) (fun i W=>∃c,Ix c i W∧Bk .done (some c) W) _
  (by rw[hW1];exact hb0.trans ((((Below.refl _ w).alloc (Nat.le_refl _) _).alloc (by simp) _).mono hb0.size))
  (fun s A B row hs hg' hr=>⟨hI s A B row hs.1 hg' (hbE hr),hey hs.2 hg' fun r e=>(hr r e).2⟩)
  (fun s A B row ⟨c,hc,hk⟩ hg' hr=>⟨c,hIx c s A B row hc hg' (hbE hr),hey hk hg' fun r e=>(hr r e).2⟩)
  (fun i W hlt ⟨hi,hk⟩=>?_) ⟨by rw[hW1];exact hI.alloc _ (hI.alloc _ h0),hew⟩).mono ?_
 ·have hy:=run_yield (P:=P) (args:=el i) hk.1 (by rw[hrec];exact hps i hlt)
  rw[hrec]at hy
  refine⟨fn,_,assign,body,hy,roundIn_of_wpIn hfn (hassign _ i W _ (by omega) hlt hi fun a₁ W₁ hm1 hkf hkp=>?_)⟩
  replace hk:Bk .ready none W₁:=⟨hkf.same _ _ (by omega) hk.1 rfl,hkf.same _ _ (Nat.le_refl _) hk.2 rfl⟩
  refine⟨_,run_beginRound hk.1 (by rw[hrec]),?_⟩
  rw[show({ rec .ready none with state:=.busy }:Loop)=rec .busy none by rw[hrec]]
  have hkb:=hbB (st':=.busy) (pe':=none) hk
  refine wpIn_mono (hbody _ i a₁ _ (by omega) hlt (hM.putObj _ hm1 (by omega) hk.1 rfl)) fun e a3 W3 ⟨hk3,hp⟩=>?_
  have hb3:Bk .busy none W3:=⟨hk3.same _ _ (by omega) hkb.1 rfl,hk3.same _ _ (Nat.le_refl _) hkb.2 rfl⟩
  have fin:∀jump:Option Code,(Instr.endRound (w.heap.size+1) jump).run P W3 = .ok (.bool jump.isNone) (W3.putObj (w.heap.size+1) (.loop (rec (if jump.isNone then .ready else .done) jump))):=fun jump=>by
   have:=run_endRound (P:=P) jump hb3.1
   rw[hrec]at this ⊢
   exact this
  have leave:∀c:Code,Ix c i W3→_:=fun c hc=>(⟨.bool false,W3.putObj (w.heap.size+1) (.loop (rec .done (some c))),fin (some c),.inr ⟨rfl,c,(hIx c).putObj _ hc (by omega) hb3.1 rfl,hbB hb3⟩⟩:∃v W4,(Instr.endRound (w.heap.size+1) (some c)).run P W3 = .ok v W4∧((Ending.returned v = .returned (.bool true)∧(I (i+1) W4∧Bk .ready none W4)∧Kp W W4)∨(Ending.returned v = .returned (.bool false)∧∃c,Ix c i W4∧Bk .done (some c) W4)))
  cases e with
  | normal=>
   exact⟨_,_,fin none,.inl ⟨rfl,⟨hI.putObj _ hp.2 (by omega) hb3.1 rfl,hbB hb3⟩,hKt (hKt (hKt hkp (hKb _ _ _ _ (by omega) hk.1 rfl rfl)) hp.1) (hKb _ _ _ _ (by omega) hb3.1 rfl rfl)⟩⟩
  | ret=>exact leave _ hp
  | exit id=>exact leave _ hp
  | goto t=>exact leave _ hp
  | panic ch=>exact hp.elim
  | outgrown=>exact hp.elim
 have shut:∀{st pe W2},st≠.busy→Bk st pe W2→(Instr.endLoop (w.heap.size+1)).run P W2 = .ok pe (W2.putObj (w.heap.size+1) (.loop (rec .exhausted pe))):=fun {st pe W2} hne hk=>by
  have:=run_endLoop (P:=P) hk.1 (by rw[hrec];exact hne)
  rw[hrec]at this ⊢
  exact this
 rintro e W2 ⟨⟨v,rfl⟩,(⟨hi,hk⟩|⟨i,hlt,c,hi,hk⟩)⟩
 ·exact⟨none,_,shut (by simp) hk,hdone _ _ (Nat.le_refl _) (hI.putObj _ hi (by omega) hk.1 rfl) (hbB hk).2⟩
 exact⟨some c,_,shut (by simp) hk,hstop _ c i _ (Nat.le_refl _) hlt ((hIx c).putObj _ hi (by omega) hk.1 rfl) (hbB hk).2⟩
end
attribute [local go_sem] Oper.semAt_some

def KC (W W':World):Prop:=∀b o v,W.cell? ⟨b,o,none⟩=some v→W'.cell? ⟨b,o,none⟩=some v
theorem KC.refl (W:World):KC W W:=fun _ _ _ h=>h
theorem KC.trans {A B C:World} (h:KC A B) (k:KC B C):KC A C:=fun b o v hv=>k b o v (h b o v hv)
theorem KC.below {W W':World} (h:Below W.heap.size W W'):KC W W':=fun b o _v hv=>(h.cell (p:=⟨b,o,none⟩) (q8 hv)).trans hv
theorem KC.putObj {W:World} {l:Nat} {o:Obj} (o':Obj) (hl:W.heap[l]?=some o) (ho:o.isCells=false):KC W (W.putObj l o'):=fun b a v hv=>
 (World.cell?_of_block (a:=⟨b,a,none⟩) (World.putObj_heap_other (by have:=xM hl ho hv;omega))).trans hv
theorem KC.own {W W':World} {B:Nat} {row:Option Nat} (hg:W.grownBy W' row) (hr:∀r,row=some r→B≤r∧∃o:Obj,W.heap[r]?=some o∧o.isCells=false):KC W W':=fun b o v hv=>
 (World.cell?_of_block (a:=⟨b,o,none⟩) (hg.block b (q8 hv) (fun e=>by
  obtain⟨_,x,hx,hn⟩:=hr b e.symm
  exact xM hx hn hv rfl))).trans hv

theorem Vs (x:Array Value) (w:World) :
  Calls Tryz.prog 146 #[.agg x] w fun e w'=>e = .returned (.func (.func 168) #[] #[.pointer (some ⟨w.heap.size,0,none⟩)])∧w'=w.alloc (.cells x 53):=by
 go_enter Tryz.func146,Tryz.ntmps146
 go_wp2
 go_ret
 exact⟨rfl,rfl⟩

def kD (x:InsL) (i:Nat):Array Value:=#[.agg #[.bool ((qL x).getD i (false,0)).1,.int .i64 ((qL x).getD i (false,0)).2]]
structure ValSh (X:Nat) (q:Option Addr) (c:Nat) (x:InsL) (W:World):Prop where
 c0:W.cell? ⟨X,0,none⟩=some (.int .i64 x.op)
 c2:W.cell? ⟨X,2,none⟩=some (.bool x.ar)
 c3:W.cell? ⟨X,3,none⟩=some (.int .i64 x.an)
 c4:W.cell? ⟨X,4,none⟩=some (.bool x.br)
 c5:W.cell? ⟨X,5,none⟩=some (.int .i64 x.bn)
 c7:W.cell? ⟨X,7,none⟩=some (.slice q x.args.length c)
 arg:∀i (h:i<x.args.length),∃b o,q=some ⟨b,o,none⟩∧W.cell? ⟨b,o+i*2,none⟩=some (.bool x.args[i].1)∧W.cell? ⟨b,o+i*2+1,none⟩=some (.int .i64 x.args[i].2)
theorem zB {β:Type} {B:Nat} {J:β→World→Prop} (h:AbidesFrom B J) {s:β} {W:World} (o:Obj) (hs:J s W):J s (W.alloc o):=
 h s W _ none hs (World.grownBy_alloc W o none) (fun r e=>by cases e)
theorem shB_A {op:Int} (h:shB op=true):shA op=true:=by
 unfold shB at h
 unfold shA
 rw[decide_eq_true_eq]at h ⊢
 omega
theorem QR {x:InsL} {K0:Nat} (_hk:(qL x).length=K0+x.args.length) (h:∃l,qL x=l++x.args∧l.length=K0) {i:Nat} (hi:i<x.args.length):kD x (K0+i)=#[.agg #[.bool x.args[i].1,.int .i64 x.args[i].2]]:=by
 obtain⟨l,e,hl⟩:=h
 unfold kD
 have e2:(qL x).getD (K0+i) (false,0)=x.args[i]:=by
  rw[List.getD_eq_getElem?_getD,e,List.getElem?_append_right (by omega),hl]
  have e3:K0+i - K0=i:=by omega
  rw[e3,List.getElem?_eq_getElem hi]
  rfl
 rw[e2]

end Go.Proofs.YtecdphhdmjmmnaaGreatDoor
namespace Go.Proofs.YtecdphhdmjmmnaaGreatDoor
open Go.RowKit Go.Shelf
attribute [local go_sem] Oper.semAt_some

def KCg (G:Nat→Prop) (W W':World):Prop:=∀b o v,¬ G b→W.cell? ⟨b,o,none⟩=some v→W'.cell? ⟨b,o,none⟩=some v
theorem KCg.trans {G:Nat→Prop} {A B C:World} (h:KCg G A B) (k:KCg G B C):KCg G A C:=fun b o v hb hv=>k b o v hb (h b o v hb hv)
theorem KCg.of {G:Nat→Prop} {A B:World} (h:KC A B):KCg G A B:=fun b o v _ hv=>h b o v hv
theorem KCg.kept {G:Nat→Prop} {A B:World} (h:Kept G A B):KCg G A B:=fun b o _v hb hv=>(h.cell (p:=⟨b,o,none⟩) (q8 hv) hb).trans hv
theorem KCg.below {G:Nat→Prop} {W W':World} (h:Below W.heap.size W W'):KCg G W W':=.of (.below h)
theorem ValSh.kcg {G:Nat→Prop} {X c:Nat} {q:Option Addr} {x:InsL} {W W':World} (h:ValSh X q c x W) (hG:¬ G X∧∀b o,q=some ⟨b,o,none⟩→0<x.args.length→¬ G b) (k:KCg G W W'):ValSh X q c x W':=
 ⟨k _ _ _ hG.1 h.c0,k _ _ _ hG.1 h.c2,k _ _ _ hG.1 h.c3,k _ _ _ hG.1 h.c4,k _ _ _ hG.1 h.c5,k _ _ _ hG.1 h.c7,fun i hi=>by
  obtain⟨b,o,h1,h2,h3⟩:=h.arg i hi
  have hb:=hG.2 b o h1 (by omega)
  exact⟨b,o,h1,k _ _ _ hb h2,k _ _ _ hb h3⟩⟩

theorem J1 (G:Nat→Prop) (X c:Nat) (q:Option Addr) (x:InsL) (w:World) (hop:1≤x.op∧x.op≤22) (hl:x.args.length*16≤140737488351232) (hsh:ValSh X q c x w) (hG:¬ G X∧∀b o,q=some ⟨b,o,none⟩→0<x.args.length→¬ G b) (hGw:∀b,G b→b<w.heap.size) :
  SeqAt Fence.wide 2 Tryz.prog 168 #[.pointer (some ⟨X,0,none⟩)] (kD x) (qL x).length (KCg G) w:=by
 intro l J Jx W hW hJ hJx hY h0
 have HS:=q7 (hsh.kcg hG (KCg.below hW))
 have HGx:=q7 hG
 have hNG:¬ G (W.heap.size+1):=fun h=>by have:=hGw _ h;have:=hW.size;omega
 have HNG:=q7 hNG
 have HY:=q7 hY
 have HJ:=q7 hJ
 have hsp:=fun w=>kK x.op w hop
 have hN:qL x=(if shA x.op=true then[(x.ar,x.an)] else[])++(if shB x.op=true then[(x.br,x.bn)] else[])++x.args:=rfl
 have hBA:=@shB_A x.op
 have hpA:Hid (∀(K0:Nat) (W1:World),(∃l,qL x=l++x.args∧l.length=K0)→J K0 W1→ValSh X q c x W1→True):=q7 fun _ _ _ _ _=>trivial
 clear hsh hY hW hop hJ hJx hpA hG hGw hNG
 refine callsIn_of_wp Tryz.func168 rfl trivial ?_ rfl
 simp only[Tryz.ntmps168,List.size_toArray,List.length_cons,List.length_nil,Nat.reduceAdd,Nat.reduceSub,Array.replicate_succ,Array.replicate_zero,List.push_toArray,List.append_toArray,List.nil_append,List.cons_append]
 have c0:=HS.out.c0
 have hzX:=q8 c0
 cases hA:shA x.op
 ·have hB:shB x.op=false:=by
   cases h:shB x.op
   ·rfl
   rw[hBA h]at hA;cases hA
  simp only[hA,hB]at hsp
  rw[hA,hB]at hN
  have HN:=q7 (show ∃l,qL x=l++x.args∧l.length=0 from⟨[],by rw[hN];rfl,rfl⟩)
  have HSp:=q7 hsp
  have c7:=HS.out.c7
  have HJ0:Hid (J (0+0) ((W.alloc (.cells #[.bool (shD x.op),.bool false,.bool false] 139)).alloc (.cells #[.bool (shD x.op),.bool false,.bool false] 139))):=q7 (zB HJ.out _ (zB HJ.out _ h0))
  have HSh:Hid (ValSh X q c x ((W.alloc (.cells #[.bool (shD x.op),.bool false,.bool false] 139)).alloc (.cells #[.bool (shD x.op),.bool false,.bool false] 139))):=q7 (HS.out.kcg HGx.out (KCg.below (((Below.refl _ _).alloc (Nat.le_refl _) _).alloc (by simp) _)))
  clear hsp hN hA hB hBA h0
  gi_wp2_with (refine⟨trivial,?_⟩;gi_at_call 89;refine((callsIn_wide (n:=1)).2 (HSp.out _)).mono ?_;rintro e w2 ⟨rfl,rfl⟩)
  refine⟨(fun _ h=>by cases h),?_⟩
  gi_wp2
  clear c0 c7
  gi_loopw [32] (fun i wr=>∃j:Nat,j≤x.args.length∧i = .int .i64 j∧J (0+j) wr∧ValSh X q c x wr) (fun i _=>x.args.length - (intOf i).toNat)
  case atStart=>exact⟨0,by omega,rfl,HJ0.out,HSh.out⟩
  case round=>
   obtain⟨j,hj,rfl,hJj,hV⟩:=hrel
   have HV:=q7 hV
   have HJj:=q7 hJj
   clear hV hJj HJ0 HSh
   by_cases hjl:j<x.args.length
   rotate_left
   ·have hlen:(qL x).length=0+x.args.length:=by
     obtain⟨l,e,hl⟩:=HN.out
     rw[e,List.length_append,hl]
    obtain rfl:j=x.args.length:=by omega
    gi_wp2
    go_end0
    exact⟨⟨_,rfl⟩,.inl (by rw[hlen];exact HJj.out)⟩
   obtain⟨b,o,hq,a0,a1⟩:=HV.out.arg j hjl
   subst hq
   have hlen:(qL x).length=0+x.args.length:=by
    obtain⟨l,e,hl⟩:=HN.out
    rw[e,List.length_append,hl]
   have he:=QR hlen HN.out hjl
   have hy:=HY.out (0+j) (wr.alloc (.cells #[.bool x.args[j].1,.int .i64 x.args[j].2] 43)) (by omega) (zB HJ.out _ HJj.out)
   rw[he]at hy
   obtain⟨fn,tmps,assign,body,hy,hR⟩:=hy
   have HR:=q7 hR
   have hjb:=q8 a0
   have hlt:0+j<(qL x).length:=by omega
   clear hR he hlen
   generalize x.args[j]=av at *
   gi_wp2
   refine HR.out.mono ?_
   rintro e W3 (⟨rfl,hJ3,hk3⟩|⟨rfl,hJx3⟩)
   ·have HK3:=q7 (HV.out.kcg HGx.out ((KCg.below ((Below.refl _ _).alloc (Nat.le_refl _) _)).trans hk3))
    clear hk3
    gi_wp2
    go_roundw
    case rel=>exact⟨j+1,by omega,by go_num,hJ3,HK3.out⟩
    case measure=>simp[intOf];omega
   gi_wp2
   refine bodyPost_ret (results_none rfl _ _ _) rfl ?_
   exact⟨⟨_,rfl⟩,.inr ⟨_,hlt,hJx3⟩⟩
 cases hB:shB x.op
 ·simp only[hA,hB]at hsp
  rw[hA,hB]at hN
  have HN:=q7 (show ∃l,qL x=l++x.args∧l.length=1 from⟨[(x.ar,x.an)],by rw[hN];rfl,rfl⟩)
  have HSp:=q7 hsp
  have HE0:Hid (kD x 0=#[.agg #[.bool x.ar,.int .i64 x.an]]):=q7 (by unfold kD;rw[hN];rfl)
  have HLen:Hid ((qL x).length=1+x.args.length):=q7 (by rw[hN];simp;omega)
  have HJ0:Hid (J 0 ((W.alloc (.cells #[.bool (shD x.op),.bool true,.bool false] 139)).alloc (.cells #[.bool (shD x.op),.bool true,.bool false] 139))):=q7 (zB HJ.out _ (zB HJ.out _ h0))
  have HSh:Hid (ValSh X q c x ((W.alloc (.cells #[.bool (shD x.op),.bool true,.bool false] 139)).alloc (.cells #[.bool (shD x.op),.bool true,.bool false] 139))):=q7 (HS.out.kcg HGx.out (KCg.below (((Below.refl _ _).alloc (Nat.le_refl _) _).alloc (by simp) _)))
  clear hsp hN hA hB hBA h0
  have c2:=HS.out.c2
  have c3:=HS.out.c3
  have csB:((W.alloc (.cells #[.bool (shD x.op),.bool true,.bool false] 139)).alloc (.cells #[.bool (shD x.op),.bool true,.bool false] 139)).cell? ⟨W.heap.size+1,2,none⟩=some (.bool false):=(blk (qh (by simp))).1 2
  have heN:=q7 csB
  clear csB
  have hy:=HY.out 0 ((W.alloc (.cells #[.bool (shD x.op),.bool true,.bool false] 139)).alloc (.cells #[.bool (shD x.op),.bool true,.bool false] 139)) (by rw[HLen.out];omega) HJ0.out
  rw[show kD x 0=#[.agg #[.bool x.ar,.int .i64 x.an]]from HE0.out]at hy
  obtain⟨fn,tmps,assign,body,hy,hR⟩:=hy
  have HR:=q7 hR
  clear hR
  gi_wp2_with (refine⟨trivial,?_⟩;gi_at_call 89;refine((callsIn_wide (n:=1)).2 (HSp.out _)).mono ?_;rintro e w2 ⟨rfl,rfl⟩)
  refine HR.out.mono ?_
  rintro e W3 (⟨rfl,hJ3,hk3⟩|⟨rfl,hJx3⟩)
  ·have hcs:=hk3 _ _ _ HNG.out heN.out
   have hsz:=q8 hcs
   have hdG:=q7 (HSh.out.kcg HGx.out hk3)
   have c7:=hdG.out.c7
   have hlC:=q8 c7
   have HJ1:=q7 hJ3
   clear hJ3 hk3 c0 c2 c3 hzX HSh HJ0 HR hy
   gi_wp2
   refine⟨(fun _ h=>by cases h),?_⟩
   gi_wp2
   clear hcs c7
   have HJ0:Hid (J (1+0) W3):=HJ1
   have HSh:=hdG
   gi_loopw [32] (fun i wr=>∃j:Nat,j≤x.args.length∧i = .int .i64 j∧J (1+j) wr∧ValSh X q c x wr) (fun i _=>x.args.length - (intOf i).toNat)
   case atStart=>exact⟨0,by omega,rfl,HJ0.out,HSh.out⟩
   case round=>
    obtain⟨j,hj,rfl,hJj,hV⟩:=hrel
    have HV:=q7 hV
    have HJj:=q7 hJj
    clear hV hJj HJ0 HSh
    by_cases hjl:j<x.args.length
    rotate_left
    ·have hlen:(qL x).length=1+x.args.length:=by
      obtain⟨l,e,hl⟩:=HN.out
      rw[e,List.length_append,hl]
     obtain rfl:j=x.args.length:=by omega
     gi_wp2
     go_end0
     exact⟨⟨_,rfl⟩,.inl (by rw[hlen];exact HJj.out)⟩
    obtain⟨b,o,hq,a0,a1⟩:=HV.out.arg j hjl
    subst hq
    have hlen:(qL x).length=1+x.args.length:=by
     obtain⟨l,e,hl⟩:=HN.out
     rw[e,List.length_append,hl]
    have he:=QR hlen HN.out hjl
    have hy:=HY.out (1+j) (wr.alloc (.cells #[.bool x.args[j].1,.int .i64 x.args[j].2] 43)) (by omega) (zB HJ.out _ HJj.out)
    rw[he]at hy
    obtain⟨fn,tmps,assign,body,hy,hR⟩:=hy
    have HR:=q7 hR
    have hjb:=q8 a0
    have hlt:1+j<(qL x).length:=by omega
    clear hR he hlen
    generalize x.args[j]=av at *
    gi_wp2
    refine HR.out.mono ?_
    rintro e W3 (⟨rfl,hJ3,hk3⟩|⟨rfl,hJx3⟩)
    ·have HK3:=q7 (HV.out.kcg HGx.out ((KCg.below ((Below.refl _ _).alloc (Nat.le_refl _) _)).trans hk3))
     clear hk3
     gi_wp2
     go_roundw
     case rel=>exact⟨j+1,by omega,by go_num,hJ3,HK3.out⟩
     case measure=>simp[intOf];omega
    gi_wp2
    refine bodyPost_ret (results_none rfl _ _ _) rfl ?_
    exact⟨⟨_,rfl⟩,.inr ⟨_,hlt,hJx3⟩⟩
  clear hy HR c0 c2 c3 hzX HSh HJ0 heN
  have hhZ:0<(qL x).length:=by rw[HLen.out];omega
  have hu:∀b:Bool,¬ some undef=some (Value.bool b):=fun b h=>by cases h
  gi_wp2
  all_goals first
   | exact absurd ‹some undef=some (Value.bool _)› (hu _)
   | (refine⟨(fun _ h=>by cases h),?_⟩;gi_wp2;refine bodyPost_ret (results_none rfl _ _ _) rfl ?_;exact⟨⟨_,rfl⟩,.inr ⟨_,hhZ,hJx3⟩⟩)
 simp only[hA,hB]at hsp
 rw[hA,hB]at hN
 have HN:=q7 (show ∃l,qL x=l++x.args∧l.length=2 from⟨[(x.ar,x.an),(x.br,x.bn)],by rw[hN];rfl,rfl⟩)
 have HSp:=q7 hsp
 have HE0:Hid (kD x 0=#[.agg #[.bool x.ar,.int .i64 x.an]]):=q7 (by unfold kD;rw[hN];rfl)
 have HE1:Hid (kD x 1=#[.agg #[.bool x.br,.int .i64 x.bn]]):=q7 (by unfold kD;rw[hN];rfl)
 have HLen:Hid ((qL x).length=2+x.args.length):=q7 (by rw[hN];simp;omega)
 have HJ0:Hid (J 0 ((W.alloc (.cells #[.bool (shD x.op),.bool true,.bool true] 139)).alloc (.cells #[.bool (shD x.op),.bool true,.bool true] 139))):=q7 (zB HJ.out _ (zB HJ.out _ h0))
 have HSh:Hid (ValSh X q c x ((W.alloc (.cells #[.bool (shD x.op),.bool true,.bool true] 139)).alloc (.cells #[.bool (shD x.op),.bool true,.bool true] 139))):=q7 (HS.out.kcg HGx.out (KCg.below (((Below.refl _ _).alloc (Nat.le_refl _) _).alloc (by simp) _)))
 clear hsp hN hA hB hBA h0
 have c2:=HS.out.c2
 have c3:=HS.out.c3
 have csB:((W.alloc (.cells #[.bool (shD x.op),.bool true,.bool true] 139)).alloc (.cells #[.bool (shD x.op),.bool true,.bool true] 139)).cell? ⟨W.heap.size+1,2,none⟩=some (.bool true):=(blk (qh (by simp))).1 2
 have heN:=q7 csB
 clear csB
 have hy:=HY.out 0 ((W.alloc (.cells #[.bool (shD x.op),.bool true,.bool true] 139)).alloc (.cells #[.bool (shD x.op),.bool true,.bool true] 139)) (by rw[HLen.out];omega) HJ0.out
 rw[show kD x 0=#[.agg #[.bool x.ar,.int .i64 x.an]]from HE0.out]at hy
 obtain⟨fn,tmps,assign,body,hy,hR⟩:=hy
 have HR:=q7 hR
 clear hR
 gi_wp2_with (refine⟨trivial,?_⟩;gi_at_call 89;refine((callsIn_wide (n:=1)).2 (HSp.out _)).mono ?_;rintro e w2 ⟨rfl,rfl⟩)
 refine HR.out.mono ?_
 rintro e W3 (⟨rfl,hJ3,hk3⟩|⟨rfl,hJx3⟩)
 ·have hcs:=hk3 _ _ _ HNG.out heN.out
  have hsz:=q8 hcs
  have hdG:=q7 (HSh.out.kcg HGx.out hk3)
  have c4:=hdG.out.c4
  have c5:=hdG.out.c5
  have hlC:=q8 c4
  have HJ1:=q7 hJ3
  clear hJ3 hk3 c0 c2 c3 hzX HSh HJ0 HR hy
  have hy:=HY.out 1 W3 (by rw[HLen.out];omega) HJ1.out
  rw[show kD x 1=#[.agg #[.bool x.br,.int .i64 x.bn]]from HE1.out]at hy
  obtain⟨fn,tmps,assign,body,hy,hR⟩:=hy
  have HR:=q7 hR
  clear hR
  gi_wp2
  refine HR.out.mono ?_
  rintro e W4 (⟨rfl,hJ4,hk4⟩|⟨rfl,hpB⟩)
  ·have HSh:=q7 (hdG.out.kcg HGx.out hk4)
   have c7:=HSh.out.c7
   have ht6:=q8 c7
   have HJ0:Hid (J (2+0) W4):=q7 hJ4
   clear hJ4 hk4 c4 c5 hlC hdG HJ1 hcs hsz HR hy
   gi_wp2
   clear c7
   gi_loopw [32] (fun i wr=>∃j:Nat,j≤x.args.length∧i = .int .i64 j∧J (2+j) wr∧ValSh X q c x wr) (fun i _=>x.args.length - (intOf i).toNat)
   case atStart=>exact⟨0,by omega,rfl,HJ0.out,HSh.out⟩
   case round=>
    obtain⟨j,hj,rfl,hJj,hV⟩:=hrel
    have HV:=q7 hV
    have HJj:=q7 hJj
    clear hV hJj HJ0 HSh
    by_cases hjl:j<x.args.length
    rotate_left
    ·have hlen:(qL x).length=2+x.args.length:=by
      obtain⟨l,e,hl⟩:=HN.out
      rw[e,List.length_append,hl]
     obtain rfl:j=x.args.length:=by omega
     gi_wp2
     go_end0
     exact⟨⟨_,rfl⟩,.inl (by rw[hlen];exact HJj.out)⟩
    obtain⟨b,o,hq,a0,a1⟩:=HV.out.arg j hjl
    subst hq
    have hlen:(qL x).length=2+x.args.length:=by
     obtain⟨l,e,hl⟩:=HN.out
     rw[e,List.length_append,hl]
    have he:=QR hlen HN.out hjl
    have hy:=HY.out (2+j) (wr.alloc (.cells #[.bool x.args[j].1,.int .i64 x.args[j].2] 43)) (by omega) (zB HJ.out _ HJj.out)
    rw[he]at hy
    obtain⟨fn,tmps,assign,body,hy,hR⟩:=hy
    have HR:=q7 hR
    have hjb:=q8 a0
    have hlt:2+j<(qL x).length:=by omega
    clear hR he hlen
    generalize x.args[j]=av at *
    gi_wp2
    refine HR.out.mono ?_
    rintro e W3 (⟨rfl,hJ3,hk3⟩|⟨rfl,hJx3⟩)
    ·have HK3:=q7 (HV.out.kcg HGx.out ((KCg.below ((Below.refl _ _).alloc (Nat.le_refl _) _)).trans hk3))
     clear hk3
     gi_wp2
     go_roundw
     case rel=>exact⟨j+1,by omega,by go_num,hJ3,HK3.out⟩
     case measure=>simp[intOf];omega
    gi_wp2
    refine bodyPost_ret (results_none rfl _ _ _) rfl ?_
    exact⟨⟨_,rfl⟩,.inr ⟨_,hlt,hJx3⟩⟩
  gi_wp2
  refine bodyPost_ret (results_none rfl _ _ _) rfl ?_
  exact⟨⟨_,rfl⟩,.inr ⟨_,by rw[HLen.out];omega,hpB⟩⟩
 clear hy HR c0 c2 c3 hzX HSh HJ0 heN
 have hhZ:0<(qL x).length:=by rw[HLen.out];omega
 have hu:∀b:Bool,¬ some undef=some (Value.bool b):=fun b h=>by cases h
 gi_wp2
 all_goals first
  | exact absurd ‹some undef=some (Value.bool _)› (hu _)
  | (refine⟨(fun _ h=>by cases h),?_⟩;gi_wp2;refine bodyPost_ret (results_none rfl _ _ _) rfl ?_;exact⟨⟨_,rfl⟩,.inr ⟨_,hhZ,hJx3⟩⟩)
end Go.Proofs.YtecdphhdmjmmnaaGreatDoor
namespace Go.Proofs.YtecdphhdmjmmnaaGreatDoor
open Go.RowKit Go.Shelf
attribute [local go_sem] Oper.semAt_some

theorem J2 (s:SetL) (x:InsL) (i:Nat) (h:i<(qL x).length):((qL x).take (i+1)).foldl vY s=vY (((qL x).take i).foldl vY s) (qL x)[i]:=by
 rw[←List.take_append_getElem h,List.foldl_append]
 rfl

theorem QS {B g:Nat} {s:SetL} {W W':World} (hk:Kept (fun b=>b=g) W W') (h:SetAt W g s):KeepsFrom B W W':=
 ⟨hk.size,fun k o _ hq ho=>(hk.block k (q9 hq) fun e=>by
  obtain⟨_,hc⟩:=h.blk
  have e:k=g:=e
  rw[e,hc]at hq
  cases hq
  cases ho).trans hq⟩
theorem keepsB {B:Nat} {a b:World} (h:Below a.heap.size a b):KeepsFrom B a b:=⟨h.size,fun k _o _ hq _=>(h.block k (q9 hq)).trans hq⟩
theorem JI {g B:Nat} (hB:g<B) (f:Nat→SetL):OwnFrom B (fun i W=>SetAt W g (f i)):=fun s W W' row hs hg hr=>
 hs.of_block (hg.block g hs.lt fun e=>by have:=(hr g e.symm).1;omega)

theorem J3 (g c:Nat) (s:SetL) (x:InsL) (q:Option Addr) (cs:Nat) (w:World) (h:SetAt w g s) (hop:1≤x.op∧x.op≤22) (hl:x.args.length*16≤140737488351232) (hq:SliceAt w 2 vO q x.args) (hqg:∀b o,q=some ⟨b,o,none⟩→0<x.args.length→b≠g) (hd:0≤x.dst→x.dst<s.length) (hv:∀v∈qL x,v.1=true→0≤v.2∧v.2<(s.length:Int)) :
  Calls Tryz.prog 119 #[.slice (some ⟨g,0,none⟩) s.length c,.agg #[.int .i64 x.op,.int .i64 x.dst,.bool x.ar,.int .i64 x.an,.bool x.br,.int .i64 x.bn,.int .i64 x.fn,.slice q x.args.length cs]] w fun e w'=>e = .returned (.tuple #[])∧SetAt w' g (XZ s x)∧Kept (fun b=>b=g) w w':=by
 have HQ:=q7 (And.intro hq hqg)
 have HV:=q7 hv
 obtain⟨s0,hs0⟩:∃s0,s0=if 0≤x.dst then s.set x.dst.toNat false else s:=⟨_,rfl⟩
 have HS0:=q7 hs0
 have hf:=h.frozen
 have hz:=h.lt
 have H:=q7 h
 clear hq hqg hv hs0 h
 refine(callsIn_wide (n:=3)).1 ?_
 refine callsIn_of_wp_marks Tryz.func119 rfl trivial ?_ rfl
 simp only[Tryz.ntmps119,List.size_toArray,List.length_cons,List.length_nil,Nat.reduceAdd,Nat.reduceSub,Array.replicate_succ,Array.replicate_zero,List.push_toArray,List.append_toArray,List.nil_append,List.cons_append]
 by_cases hd0:0≤x.dst
 ·obtain⟨d,hdd⟩:∃d:Nat,x.dst=d:=⟨x.dst.toNat,by omega⟩
  have hds:d<s.length:=by have:=hd hd0;omega
  have hc:=H.out.cell d hds
  have hd1:decide (x.dst≥0)=true:=decide_eq_true hd0
  have hs1:s0=s.set d false:=by rw[HS0.out,if_pos hd0,hdd];rfl
  have HS1:=q7 hs1
  clear hs1
  gi_wp2_with (refine⟨trivial,?_⟩;gi_at_call 146;refine((callsIn_wide (n:=2)).2 (Vs _ _)).mono ?_;rintro e w2 ⟨rfl,rfl⟩)
  obtain⟨W0,hW0⟩:∃W0,W0=((((w.setCell ⟨g,d,none⟩ (.bool false)).alloc (.cells #[.slice (some ⟨g,0,none⟩) s.length c] 169)).alloc (.cells #[.int .i64 x.op,.int .i64 d,.bool x.ar,.int .i64 x.an,.bool x.br,.int .i64 x.bn,.int .i64 x.fn,.slice q x.args.length cs] 53)).alloc (.cells #[.int .i64 x.op,.int .i64 d,.bool x.ar,.int .i64 x.an,.bool x.br,.int .i64 x.bn,.int .i64 x.fn,.slice q x.args.length cs] 53)):=⟨_,rfl⟩
  rw[←hW0]
  have hk0:Kept (fun b=>b=g) w W0:=by rw[hW0];exact((((Kept.refl (fun b=>b=g) w).setCell (p:=⟨g,d,none⟩) rfl _).alloc _).alloc _).alloc _
  have hset:SetAt W0 g s0:=by rw[hW0,HS1.out];exact(((H.out.set d false).below (.alloc (.refl _ _) (Nat.le_refl _) _)).below (.alloc (.refl _ _) (Nat.le_refl _) _)).below (.alloc (.refl _ _) (Nat.le_refl _) _)
  have hz0:W0.heap.size=w.heap.size+1+1+1:=by rw[hW0];simp
  have hbx:W0.heap[w.heap.size]?=some (.cells #[.slice (some ⟨g,0,none⟩) s.length c] 169 (0,0)):=by rw[hW0];exact qj (qj (qh (by simp)))
  have hX:W0.heap[w.heap.size+1+1]?=some (.cells #[.int .i64 x.op,.int .i64 d,.bool x.ar,.int .i64 x.an,.bool x.br,.int .i64 x.bn,.int .i64 x.fn,.slice q x.args.length cs] 53 (0,0)):=by rw[hW0];exact qh (by simp)
  clear hW0
  have hsh:ValSh (w.heap.size+1+1) q cs x W0:=⟨(blk hX).1 0,(blk hX).1 2,(blk hX).1 3,(blk hX).1 4,(blk hX).1 5,(blk hX).1 7,fun i hi=>by
   obtain⟨b,o,e1,e2,e3,_⟩:=Xk HQ.out.1 (Below.refl _ _) hi
   have hbg:=HQ.out.2 b o e1 (by omega)
   exact⟨b,o,e1,(hk0.cell (p:=⟨b,_,none⟩) (q8 e2) hbg).trans e2,(hk0.cell (p:=⟨b,_,none⟩) (q8 e3) hbg).trans e3⟩⟩
  have hGx:¬ (fun b=>b=g) (w.heap.size+1+1)∧∀b o,q=some ⟨b,o,none⟩→0<x.args.length→¬ (fun b=>b=g) b:=⟨fun e=>by(have e:w.heap.size+1+1=g:=e);omega,fun b o e h=>HQ.out.2 b o e h⟩
  have hsl:s0.length=s.length:=by rw[HS1.out];simp
  have HK0:=q7 hk0
  have hi6:=q7 hset
  have HBx:=q7 hbx
  have HSh:=q7 hsh
  have HSl:=q7 hsl
  clear hk0 hset hbx hX hsh hd1 hsl hdd
  have HOw:Hid (OwnFrom W0.heap.size (fun(i:Nat) W=>Kept (fun b=>b=g) W0 W∧SetAt W g (((qL x).take i).foldl vY s0))):=q7 ((ZI (Nat.le_refl _)).and (JI (by omega) _))
  refine jH rfl (by omega) (gf:=168) (lb:=#[.pointer (some ⟨w.heap.size+1+1,0,none⟩)]) rfl trivial (enters_of Tryz.func168 (by kernel_rfl) rfl)
   (J1 (fun b=>b=g) (w.heap.size+1+1) cs q x W0 hop hl HSh.out hGx (fun b e=>by(have e:b=g:=e);omega)) (fun h k=>h.trans k) (fun W l o o' _ hl ho _=>.of (KC.putObj o' hl ho)) (Below.refl _ _) (fun i _=>rfl)
   (fun i W=>Kept (fun b=>b=g) W0 W∧SetAt W g (((qL x).take i).foldl vY s0)) (fun _ _ _=>False)
   HOw.out (fun _ _ _ _ _ hs _ _=>hs) ⟨Kept.refl _ _,hi6.out⟩
   (fun m W=>(Kept (fun b=>b=g) W0 W∧SetAt W g (((qL x).take m.1).foldl vY s0))∧∃V,m.2={ tmps:=#[.slice (some ⟨g,0,none⟩) s.length c,.agg #[.int .i64 x.op,.int .i64 d,.bool x.ar,.int .i64 x.an,.bool x.br,.int .i64 x.bn,.int .i64 x.fn,.slice q x.args.length cs],.pointer (some ⟨w.heap.size,0,none⟩),.pointer (some ⟨w.heap.size+1,0,none⟩),.pointer (some ⟨V,0,none⟩),.pointer (some ⟨w.heap.size+1,1,none⟩),.int .i64 d,.bool true,.slice (some ⟨g,0,none⟩) s.length c,.pointer (some ⟨w.heap.size+1,1,none⟩),.int .i64 d,.pointer (some ⟨g,d,none⟩),.agg #[.int .i64 x.op,.int .i64 d,.bool x.ar,.int .i64 x.an,.bool x.br,.int .i64 x.bn,.int .i64 x.fn,.slice q x.args.length cs],.func (.func 168) #[] #[.pointer (some ⟨w.heap.size+1+1,0,none⟩)],.agg #[.bool ((qL x).getD m.1 (false,0)).1,.int .i64 ((qL x).getD m.1 (false,0)).2],undef,undef,undef],defers:=[] }∧W0.heap.size≤V∧W.heap[V]?=some (.cells #[.bool ((qL x).getD m.1 (false,0)).1,.int .i64 ((qL x).getD m.1 (false,0)).2] 43 (0,0))) ?ownM ?assign ?body ?done ?stop
  case ownM=>
   rintro m W W' row ⟨h,V,e,hV,hv⟩ hg hr
   refine⟨HOw.out m.1 W W' row h hg hr,V,e,hV,(hg.block V (q9 hv) fun e2=>?_).trans hv⟩
   obtain⟨_,o,ho,hc⟩:=hr V e2.symm
   rw[hv]at ho
   cases ho
   cases hc
  case assign=>
   rintro l i W K hl hi ⟨hk,hs⟩ hK
   have hgd:(qL x).getD i (false,0)=(qL x)[i]:=by rw[List.getD_eq_getElem?_getD,List.getElem?_eq_getElem hi];rfl
   unfold kD
   rw[hgd]
   generalize hv:(qL x)[i]=v at *
   have HGd:=q7 hgd
   clear hgd hv
   gi_wp2
   exact hK _ _ ⟨⟨hk.alloc _,hs.below ((Below.refl _ _).alloc (Nat.le_refl _) _)⟩,W.heap.size,by rw[HGd.out],hk.size,by rw[HGd.out];exact qr W _⟩ (keepsB ((Below.refl _ _).alloc (Nat.le_refl _) _)) (KCg.below ((Below.refl _ _).alloc (Nat.le_refl _) _))
  case body=>
   rintro l i a₁ W hl hi ⟨⟨hk,hs⟩,V,ea,hVb,hV⟩
   simp only at ea hV hs
   subst ea
   have hgd:(qL x).getD i (false,0)=(qL x)[i]:=by rw[List.getD_eq_getElem?_getD,List.getElem?_eq_getElem hi];rfl
   rw[hgd]at hV ⊢
   have hvv:=HV.out _ (List.getElem_mem hi)
   have hnx:=J2 s0 x i hi
   have hbx:W.cell? ⟨w.heap.size,0,none⟩=some (.slice (some ⟨g,0,none⟩) s.length c):=(hk.cell (p:=⟨w.heap.size,0,none⟩) (by show w.heap.size<_;omega) (fun e=>by(have e:w.heap.size=g:=e);omega)).trans ((blk HBx.out).1 0)
   have hzb:=q8 hbx
   have y0:W.cell? ⟨V,0,none⟩=some (.bool (qL x)[i].1):=(blk hV).1 0
   have y1:W.cell? ⟨V,1,none⟩=some (.int .i64 (qL x)[i].2):=(blk hV).1 1
   have hsl2:(((qL x).take i).foldl vY s0).length=s.length:=by rw[jm,HSl.out]
   generalize (qL x)[i]=v at *
   have hta:=X2 g c _ v W hs (by rw[hsl2];exact hvv)
   rw[hsl2]at hta
   have HTa:=q7 hta
   have HS3:=q7 hs
   have HNx:=q7 hnx
   have HK:=q7 hk
   clear hs hta hnx hsl2 hk hV hgd hvv
   gi_wp2_with fail
   refine⟨trivial,?_⟩
   refine(CallsIn.inRound l (callsIn_wide.2 HTa.out)).mono ?_
   rintro e w3 ⟨rfl,hs3,hk3⟩
   gi_wp2
   exact⟨QS hk3 HS3.out,KCg.kept hk3,HK.out.trans hk3 (fun _ _ h=>h),by rw[HNx.out];exact hs3⟩
  case done=>
   rintro D W hD ⟨hk,hs⟩ hDl
   rw[List.take_of_length_le (Nat.le_refl _)]at hs
   have HS:=q7 hs
   have HK:=q7 hk
   clear hs hk
   gi_wp2
   refine xP W0.heap.size [D] _ (by simp) (fun E hE=>by obtain rfl:E=D:=(by simpa using hE);exact⟨hD,hDl⟩) (fun w' h1 h2 h3 h4 h5=>⟨_,results_none rfl _ _ _,rfl,?_,?_⟩)
   ·have:=HS.out.of_block (w':=w') (h5 g (fun h=>by have:=List.mem_singleton.1 h;omega))
    rw[HS0.out]at this
    exact this
   have hk2:=HK0.out.trans HK.out (fun _ _ h=>h)
   exact⟨h1.trans hk2.os,h2.trans hk2.tape,h3.trans hk2.output,Nat.le_trans hk2.size h4,fun i hi hn=>(h5 i (fun h=>by have:=List.mem_singleton.1 h;omega)).trans (hk2.block i hi hn)⟩
  case stop=>exact fun _ _ _ _ _ _ h _=>h.elim
 have hd1:decide (x.dst≥0)=false:=decide_eq_false hd0
 have hs1:s0=s:=by rw[HS0.out,if_neg hd0]
 have HS1:=q7 hs1
 clear hs1
 gi_wp2_with (refine⟨trivial,?_⟩;gi_at_call 146;refine((callsIn_wide (n:=2)).2 (Vs _ _)).mono ?_;rintro e w2 ⟨rfl,rfl⟩)
 obtain⟨W0,hW0⟩:∃W0,W0=(((w.alloc (.cells #[.slice (some ⟨g,0,none⟩) s.length c] 169)).alloc (.cells #[.int .i64 x.op,.int .i64 x.dst,.bool x.ar,.int .i64 x.an,.bool x.br,.int .i64 x.bn,.int .i64 x.fn,.slice q x.args.length cs] 53)).alloc (.cells #[.int .i64 x.op,.int .i64 x.dst,.bool x.ar,.int .i64 x.an,.bool x.br,.int .i64 x.bn,.int .i64 x.fn,.slice q x.args.length cs] 53)):=⟨_,rfl⟩
 rw[←hW0]
 have hk0:Kept (fun b=>b=g) w W0:=by rw[hW0];exact(((Kept.refl (fun b=>b=g) w).alloc _).alloc _).alloc _
 have hset:SetAt W0 g s0:=by rw[hW0,HS1.out];exact((H.out.below (.alloc (.refl _ _) (Nat.le_refl _) _)).below (.alloc (.refl _ _) (Nat.le_refl _) _)).below (.alloc (.refl _ _) (Nat.le_refl _) _)
 have hz0:W0.heap.size=w.heap.size+1+1+1:=by rw[hW0];simp
 have hbx:W0.heap[w.heap.size]?=some (.cells #[.slice (some ⟨g,0,none⟩) s.length c] 169 (0,0)):=by rw[hW0];exact qj (qj (qh (by simp)))
 have hX:W0.heap[w.heap.size+1+1]?=some (.cells #[.int .i64 x.op,.int .i64 x.dst,.bool x.ar,.int .i64 x.an,.bool x.br,.int .i64 x.bn,.int .i64 x.fn,.slice q x.args.length cs] 53 (0,0)):=by rw[hW0];exact qh (by simp)
 clear hW0
 have hsh:ValSh (w.heap.size+1+1) q cs x W0:=⟨(blk hX).1 0,(blk hX).1 2,(blk hX).1 3,(blk hX).1 4,(blk hX).1 5,(blk hX).1 7,fun i hi=>by
  obtain⟨b,o,e1,e2,e3,_⟩:=Xk HQ.out.1 (Below.refl _ _) hi
  have hbg:=HQ.out.2 b o e1 (by omega)
  exact⟨b,o,e1,(hk0.cell (p:=⟨b,_,none⟩) (q8 e2) hbg).trans e2,(hk0.cell (p:=⟨b,_,none⟩) (q8 e3) hbg).trans e3⟩⟩
 have hGx:¬ (fun b=>b=g) (w.heap.size+1+1)∧∀b o,q=some ⟨b,o,none⟩→0<x.args.length→¬ (fun b=>b=g) b:=⟨fun e=>by(have e:w.heap.size+1+1=g:=e);omega,fun b o e h=>HQ.out.2 b o e h⟩
 have hsl:s0.length=s.length:=by rw[HS1.out]
 have HK0:=q7 hk0
 have hi6:=q7 hset
 have HBx:=q7 hbx
 have HSh:=q7 hsh
 have HSl:=q7 hsl
 clear hk0 hset hbx hX hsh hd1 hsl
 have HOw:Hid (OwnFrom W0.heap.size (fun(i:Nat) W=>Kept (fun b=>b=g) W0 W∧SetAt W g (((qL x).take i).foldl vY s0))):=q7 ((ZI (Nat.le_refl _)).and (JI (by omega) _))
 refine jH rfl (by omega) (gf:=168) (lb:=#[.pointer (some ⟨w.heap.size+1+1,0,none⟩)]) rfl trivial (enters_of Tryz.func168 (by kernel_rfl) rfl)
  (J1 (fun b=>b=g) (w.heap.size+1+1) cs q x W0 hop hl HSh.out hGx (fun b e=>by(have e:b=g:=e);omega)) (fun h k=>h.trans k) (fun W l o o' _ hl ho _=>.of (KC.putObj o' hl ho)) (Below.refl _ _) (fun i _=>rfl)
  (fun i W=>Kept (fun b=>b=g) W0 W∧SetAt W g (((qL x).take i).foldl vY s0)) (fun _ _ _=>False)
  HOw.out (fun _ _ _ _ _ hs _ _=>hs) ⟨Kept.refl _ _,hi6.out⟩
  (fun m W=>(Kept (fun b=>b=g) W0 W∧SetAt W g (((qL x).take m.1).foldl vY s0))∧∃V,m.2={ tmps:=#[.slice (some ⟨g,0,none⟩) s.length c,.agg #[.int .i64 x.op,.int .i64 x.dst,.bool x.ar,.int .i64 x.an,.bool x.br,.int .i64 x.bn,.int .i64 x.fn,.slice q x.args.length cs],.pointer (some ⟨w.heap.size,0,none⟩),.pointer (some ⟨w.heap.size+1,0,none⟩),.pointer (some ⟨V,0,none⟩),.pointer (some ⟨w.heap.size+1,1,none⟩),.int .i64 x.dst,.bool false,undef,undef,undef,undef,.agg #[.int .i64 x.op,.int .i64 x.dst,.bool x.ar,.int .i64 x.an,.bool x.br,.int .i64 x.bn,.int .i64 x.fn,.slice q x.args.length cs],.func (.func 168) #[] #[.pointer (some ⟨w.heap.size+1+1,0,none⟩)],.agg #[.bool ((qL x).getD m.1 (false,0)).1,.int .i64 ((qL x).getD m.1 (false,0)).2],undef,undef,undef],defers:=[] }∧W0.heap.size≤V∧W.heap[V]?=some (.cells #[.bool ((qL x).getD m.1 (false,0)).1,.int .i64 ((qL x).getD m.1 (false,0)).2] 43 (0,0))) ?ownM ?assign ?body ?done ?stop
 case ownM=>
  rintro m W W' row ⟨h,V,e,hV,hv⟩ hg hr
  refine⟨HOw.out m.1 W W' row h hg hr,V,e,hV,(hg.block V (q9 hv) fun e2=>?_).trans hv⟩
  obtain⟨_,o,ho,hc⟩:=hr V e2.symm
  rw[hv]at ho
  cases ho
  cases hc
 case assign=>
  rintro l i W K hl hi ⟨hk,hs⟩ hK
  have hgd:(qL x).getD i (false,0)=(qL x)[i]:=by rw[List.getD_eq_getElem?_getD,List.getElem?_eq_getElem hi];rfl
  unfold kD
  rw[hgd]
  generalize hv:(qL x)[i]=v at *
  have HGd:=q7 hgd
  clear hgd hv
  gi_wp2
  exact hK _ _ ⟨⟨hk.alloc _,hs.below ((Below.refl _ _).alloc (Nat.le_refl _) _)⟩,W.heap.size,by rw[HGd.out],hk.size,by rw[HGd.out];exact qr W _⟩ (keepsB ((Below.refl _ _).alloc (Nat.le_refl _) _)) (KCg.below ((Below.refl _ _).alloc (Nat.le_refl _) _))
 case body=>
  rintro l i a₁ W hl hi ⟨⟨hk,hs⟩,V,ea,hVb,hV⟩
  simp only at ea hV hs
  subst ea
  have hgd:(qL x).getD i (false,0)=(qL x)[i]:=by rw[List.getD_eq_getElem?_getD,List.getElem?_eq_getElem hi];rfl
  rw[hgd]at hV ⊢
  have hvv:=HV.out _ (List.getElem_mem hi)
  have hnx:=J2 s0 x i hi
  have hbx:W.cell? ⟨w.heap.size,0,none⟩=some (.slice (some ⟨g,0,none⟩) s.length c):=(hk.cell (p:=⟨w.heap.size,0,none⟩) (by show w.heap.size<_;omega) (fun e=>by(have e:w.heap.size=g:=e);omega)).trans ((blk HBx.out).1 0)
  have hzb:=q8 hbx
  have y0:W.cell? ⟨V,0,none⟩=some (.bool (qL x)[i].1):=(blk hV).1 0
  have y1:W.cell? ⟨V,1,none⟩=some (.int .i64 (qL x)[i].2):=(blk hV).1 1
  have hsl2:(((qL x).take i).foldl vY s0).length=s.length:=by rw[jm,HSl.out]
  generalize (qL x)[i]=v at *
  have hta:=X2 g c _ v W hs (by rw[hsl2];exact hvv)
  rw[hsl2]at hta
  have HTa:=q7 hta
  have HS3:=q7 hs
  have HNx:=q7 hnx
  have HK:=q7 hk
  clear hs hta hnx hsl2 hk hV hgd hvv
  gi_wp2_with fail
  refine⟨trivial,?_⟩
  refine(CallsIn.inRound l (callsIn_wide.2 HTa.out)).mono ?_
  rintro e w3 ⟨rfl,hs3,hk3⟩
  gi_wp2
  exact⟨QS hk3 HS3.out,KCg.kept hk3,HK.out.trans hk3 (fun _ _ h=>h),by rw[HNx.out];exact hs3⟩
 case done=>
  rintro D W hD ⟨hk,hs⟩ hDl
  rw[List.take_of_length_le (Nat.le_refl _)]at hs
  have HS:=q7 hs
  have HK:=q7 hk
  clear hs hk
  gi_wp2
  refine xP W0.heap.size [D] _ (by simp) (fun E hE=>by obtain rfl:E=D:=(by simpa using hE);exact⟨hD,hDl⟩) (fun w' h1 h2 h3 h4 h5=>⟨_,results_none rfl _ _ _,rfl,?_,?_⟩)
  ·have:=HS.out.of_block (w':=w') (h5 g (fun h=>by have:=List.mem_singleton.1 h;omega))
   rw[HS0.out]at this
   exact this
  have hk2:=HK0.out.trans HK.out (fun _ _ h=>h)
  exact⟨h1.trans hk2.os,h2.trans hk2.tape,h3.trans hk2.output,Nat.le_trans hk2.size h4,fun i hi hn=>(h5 i (fun h=>by have:=List.mem_singleton.1 h;omega)).trans (hk2.block i hi hn)⟩
 case stop=>exact fun _ _ _ _ _ _ h _=>h.elim
end Go.Proofs.YtecdphhdmjmmnaaGreatDoor
