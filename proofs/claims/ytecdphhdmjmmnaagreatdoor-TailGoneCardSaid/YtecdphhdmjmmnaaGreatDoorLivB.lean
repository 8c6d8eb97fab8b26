/-
  Plain: a register is in the set ahead of a block just if a way leads from there to where i
-/
import Derived.Test.YtecdphhdmjmmnaaGreatDoorJArgJ
import Derived.Test.YtecdphhdmjmmnaaGreatDoorJLivV
namespace Go.Proofs.YtecdphhdmjmmnaaGreatDoor
open Go.RowKit

def useI (r:Int) (x:InsL):Bool:=(qI x).any (isV r)
def XL (r:Int) (x:InsL) (l:Bool):Bool:=useI r x || (l&&!(x.dst == r))
def xN (r:Int) (x:BlkL) (l:Bool):Bool:=x.list.foldr (XL r) (isV r (x.fin.onr,x.fin.onn) || l)
inductive LiveP (f:FunL) (r:Int):Nat→Prop
 | here {b:Nat}:b<f.blocks.length→xN r (atF f b) false=true→LiveP f r b
 | next {b:Nat} {t:Int}:b<f.blocks.length→xN r (atF f b) true=true→t∈(atF f b).fin.to→LiveP f r t.toNat→LiveP f r b

theorem inS_tak {s:SetL} {v:Bool×Int} {r:Nat} (hv:v.1=true→0≤v.2∧v.2<(s.length:Int)):inS (vL s v) r=(inS s r || isV r v):=by
 unfold vL isV
 cases e:v.1
 ·simp
 have h:=hv e
 rw[if_pos rfl,QA]
 by_cases g:v.2.toNat=r
 ·rw[if_pos ⟨g,by omega⟩]
  have:v.2=(r:Int):=by omega
  simp[this]
 rw[if_neg (fun h=>g h.1)]
 have:(v.2 == (r:Int))=false:=by rw[beq_eq_false_iff_ne];omega
 simp[this]
theorem Vf {r:Nat}:∀{l:List (Bool×Int)} {s:SetL},(∀v∈l,v.1=true→0≤v.2∧v.2<(s.length:Int))→inS (l.foldl vL s) r=(inS s r || l.any (isV r))
 | [],s,_=>by simp
 | v::l,s,h=>by
  rw[List.foldl_cons,Vf (fun u hu=>by rw[kj];exact h u (.tail _ hu)),inS_tak (h v (.head _)),List.any_cons,Bool.or_assoc]
theorem Vg {regs:Int} {nf:Nat} {P:Nat→Int} {x:InsL} (h:InsC regs nf P x):∀v∈qI x,v.1=true→0≤v.2∧v.2<regs:=fun v hv e=>by
 unfold qI at hv
 rcases List.mem_append.1 hv with hv|hv
 ·rcases List.mem_append.1 hv with hv|hv
  ·split at hv
   ·rw[List.mem_singleton.1 hv]at e ⊢;exact h.a e
   cases hv
  split at hv
  ·rw[List.mem_singleton.1 hv]at e ⊢;exact h.b e
  cases hv
 by_cases c:x.op=20
 ·exact(h.call c).2.2 v hv e
 rw[List.eq_nil_of_length_eq_zero (h.c0 c).2]at hv
 cases hv
theorem inS_ahd {R r:Nat} {nf:Nat} {P:Nat→Int} {x:InsL} {s:SetL} (h:InsC R nf P x) (hs:s.length=R) (hr:r<R):inS (XF s x) r=XL r x (inS s r):=by
 have hd:(0≤x.dst∧x.dst<R)∨x.dst = -1:=by
  by_cases e:shD x.op=true∧¬(x.op=20∧x.dst = -1)
  ·exact .inl (h.d1 e.1 e.2)
  by_cases e2:shD x.op=true
  ·exact .inr (Classical.byContradiction fun g=>e ⟨e2,fun q=>g q.2⟩)
  exact .inr (h.d0 (by simpa using e2))
 unfold XF XL useI
 rw[Vf (fun v hv e=>by
  have:=Vg h v hv e
  split<;>(try rw[List.length_set])<;>omega),Bool.or_comm]
 congr 1
 split
 ·rw[QA]
  by_cases g:x.dst.toNat=r
  ·rw[if_pos ⟨g,by omega⟩]
   have:x.dst=(r:Int):=by omega
   simp[this]
  rw[if_neg (fun h=>g h.1)]
  have:(x.dst == (r:Int))=false:=by rw[beq_eq_false_iff_ne];omega
  simp[this]
 have:(x.dst == (r:Int))=false:=by rw[beq_eq_false_iff_ne];omega
 simp[this]
theorem Zb {r:Int} {x:BlkL} {a b:Bool} (h:a=true→b=true) (g:xN r x a=true):xN r x b=true:=by
 unfold xN at g ⊢
 have:∀l:List InsL,l.foldr (XL r) (isV r (x.fin.onr,x.fin.onn) || a)=true→l.foldr (XL r) (isV r (x.fin.onr,x.fin.onn) || b)=true:=by
  intro l
  induction l with
  | nil=>
   intro g
   simp only[List.foldr_nil,Bool.or_eq_true]at g ⊢
   exact g.imp id h
  | cons i l ih=>
   intro g
   simp only[List.foldr_cons,XL,Bool.or_eq_true,Bool.and_eq_true]at g ⊢
   exact g.imp id fun q=>⟨ih q.1,q.2⟩
 exact this _ g

section
variable {nf : Nat} {P : Nat → Int} {f : FunL}
theorem Jq (h:FunC nf P f) (ins:List SetL) {b r:Nat} (hb:b<f.blocks.length) (hr:r<f.regs.toNat):inS (XG f ins b) r=xN r (atF f b) ((atF f b).fin.to.any fun t=>inS (ins.getD t.toNat []) r):=by
 have hR:(f.regs.toNat:Int)=f.regs:=by have:=h.par;have:=h.reg;omega
 unfold XG
 rw[show((atF f b).fin.to.any fun t=>inS (ins.getD t.toNat []) r)=inS (Qz f.regs.toNat ins (atF f b).fin.to) r by rw[QB];simp[hr]]
 have hl:=xd f.regs.toNat ins (atF f b).fin.to
 generalize Qz f.regs.toNat ins (atF f b).fin.to=s at *
 have hfin:=(h.fin b hb).on
 have hins:=h.ins b hb
 rw[←qD hb]at hfin hins
 unfold ahiS xN
 have:∀l:List InsL,(∀x∈l,x∈(atF f b).list)→inS (l.foldr (fun i s=>XF s i) (vL s ((atF f b).fin.onr,(atF f b).fin.onn))) r=l.foldr (XL r) (isV r ((atF f b).fin.onr,(atF f b).fin.onn) || inS s r)∧(l.foldr (fun i s=>XF s i) (vL s ((atF f b).fin.onr,(atF f b).fin.onn))).length=f.regs.toNat:=by
  intro l
  induction l with
  | nil=>
   intro _
   refine⟨?_,by rw[List.foldr_nil,kj,hl]⟩
   rw[List.foldr_nil,inS_tak (fun e=>by have:=hfin e;simp only;omega),Bool.or_comm]
   rfl
  | cons i l ih=>
   intro g
   obtain⟨e1,e2⟩:=ih fun x hx=>g x (.tail _ hx)
   rw[List.foldr_cons,List.foldr_cons,←e1]
   exact⟨inS_ahd (nf:=nf) (P:=P) (by rw[hR];exact insC_iff.1 (hins i (g i (.head _)))) e2 hr,by rw[ZF,e2]⟩
 exact(this _ fun _ h=>h).1
theorem Zc (h:FunC nf P f) {r:Nat} (hr:r<f.regs.toNat):∀n b,b<f.blocks.length→inS ((zI f n).getD b []) r=true→LiveP f r b
 | 0,b,hb,g=>by
  exfalso
  unfold zI kW inS at g
  rw[List.getD_eq_getElem?_getD,List.getD_eq_getElem?_getD,List.getElem?_replicate,if_pos hb]at g
  simp only[Option.getD_some,List.getElem?_replicate]at g
  split at g<;>cases g
 | n+1,b,hb,g=>by
  have ih:=Zc h hr n
  have key:∀k,k≤f.blocks.length→∀c,c<f.blocks.length→inS ((turnTo f (zI f n) k).1.getD c []) r=true→LiveP f r c:=by
   intro k
   induction k with
   | zero=>intro _ c hc g;exact ih c hc g
   | succ k ik=>
    intro hk c hc g
    have ik:=ik (by omega)
    rw[QC]at g
    unfold kK at g
    split at g
    ·exact ik c hc g
    rw[kl]at g
    split at g
    ·next e=>
     obtain⟨e1,_⟩:=e
     subst e1
     rw[Jq h _ hc hr]at g
     cases ha:(atF f k).fin.to.any fun t=>inS ((turnTo f (zI f n) k).1.getD t.toNat []) r with
     | false=>rw[ha]at g;exact .here hc g
     | true=>
      rw[ha]at g
      obtain⟨t,ht,gt⟩:=List.any_eq_true.1 ha
      have hto:=(h.fin k hc).to t (by rw[←qD hc];exact ht)
      exact .next hc g ht (ik _ (by omega) gt)
    exact ik c hc g
  exact key _ (Nat.le_refl _) b hb g
theorem Vh (h:FunC nf P f) {b r:Nat} (hb:b<f.blocks.length) (hr:r<f.regs.toNat):inS ((jH f).getD b []) r=true↔LiveP f r b:=by
 refine⟨Zc h hr _ b hb,fun g=>?_⟩
 have hfix:=(jC f).2
 induction g with
 | here hb g=>
  rw[←hfix _ hb,Jq h _ hb hr]
  exact Zb (fun e=>by cases e) g
 | @next b t hb g ht _ ih=>
  have hto:=(h.fin b hb).to t (by rw[←qD hb];exact ht)
  rw[←hfix _ hb,Jq h _ hb hr,List.any_eq_true.2 ⟨t,ht,ih (by omega)⟩]
  exact g
theorem QH (h:FunC nf P f):qQ f=true↔(∀b∈f.blocks,b.phis=[])∧∀r:Nat,f.params≤(r:Int)→(r:Int)<f.regs→¬ LiveP f r 0:=by
 unfold qQ
 rw[Bool.and_eq_true,List.all_eq_true,List.all_eq_true]
 refine and_congr ⟨fun g b hb=>by simpa using g b hb,fun g b hb=>by simpa using g b hb⟩ ⟨fun g r h1 h2 h3=>?_,fun g r hr=>?_⟩
 ·have:=g r (List.mem_range.2 (by omega))
  rw[(Vh h h.n1 (by omega)).2 h3]at this
  simp only[Bool.not_true,Bool.false_or,decide_eq_true_eq]at this
  omega
 have hr:=List.mem_range.1 hr
 cases e:inS ((jH f).getD 0 []) r with
 | false=>rfl
 | true=>
  have:=(Vh h h.n1 hr).1 e
  simp only[Bool.not_true,Bool.false_or,decide_eq_true_eq]
  exact Classical.byContradiction fun hn=>g r (by omega) (by omega) this
end
end Go.Proofs.YtecdphhdmjmmnaaGreatDoor
