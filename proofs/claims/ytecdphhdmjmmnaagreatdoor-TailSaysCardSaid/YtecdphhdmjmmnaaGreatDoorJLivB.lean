/-
  Plain: a register is in the set ahead of a block just if a way leads from there to where i
-/
import Derived.Test.YtecdphhdmjmmnaaGreatDoorJLivD
import Derived.Shelf.SlicesE.DeleteFunc
import Derived.Test.YtecdphhdmjmmnaaGreatDoorJRegA
set_option maxRecDepth 100000
set_option maxHeartbeats 16000000
namespace Go.Proofs.YtecdphhdmjmmnaaGreatDoor
open Go.RowKit

theorem eqSet_any (g1 g2 c1 c2:Nat) (s t:SetL) (w:World) (h1:SetAt w g1 s) (h2:SetAt w g2 t) (hl:t.length=s.length) (hs:s.length≤1000) :
  Calls Tryz.prog 120 #[.slice (some ⟨g1,0,none⟩) s.length c1,.slice (some ⟨g2,0,none⟩) s.length c2] w fun e w'=>e = .returned (.bool (decide (s=t)))∧∃q,w'=w.drewN q:=by
 have H1:=q7 h1
 have H2:=q7 h2
 have HL:=q7 hl
 obtain⟨n,hn⟩:∃n,n=s.length:=⟨_,rfl⟩
 have HN:=q7 hn
 rw[←hn]at hs ⊢
 clear h1 h2 hl hn
 go_enter Tryz.func120,Tryz.ntmps120
 go_wp2
 go_loopg [13] n (fun m i wr=>∃k q:Nat,k≤n∧m=n - k∧i = .int .i64 k∧wr=w.drewN q∧∀j,j<k→inS s j=inS t j)
 case atStart=>exact⟨0,0,by omega,rfl,rfl,rfl,fun j h=>by omega⟩
 case round=>
  obtain⟨k,q,hk,rfl,rfl,rfl,hA⟩:=hrel
  have HA:=q7 hA
  clear hA
  by_cases hlt:k<n
  rotate_left
  ·go_wp2
   go_ret
   refine⟨?_,q,rfl⟩
   have:s=t:=List.ext_getElem HL.out.symm fun j h1 h2=>by
    have:=HA.out j (by have:=HN.out;omega)
    unfold inS at this
    rw[List.getD_eq_getElem?_getD,List.getD_eq_getElem?_getD,List.getElem?_eq_getElem h1,List.getElem?_eq_getElem h2]at this
    exact this
   rw[decide_eq_true this]
   rfl
  have e1:w.cell? ⟨g1,k,none⟩=some (.bool (inS s k)):=H1.out.cell k (by have:=HN.out;omega)
  have e2:w.cell? ⟨g2,k,none⟩=some (.bool (inS t k)):=H2.out.cell k (by have:=HN.out;have:=HL.out;omega)
  obtain⟨a,ha⟩:∃a,a=inS s k:=⟨_,rfl⟩
  obtain⟨b,hb⟩:∃b,b=inS t k:=⟨_,rfl⟩
  rw[←ha]at e1
  rw[←hb]at e2
  have HAB:=q7 (And.intro ha hb)
  clear ha hb
  by_cases hab:a=b
  ·subst hab
   have hne:(!(a == a))=false:=by simp
   go_wp2_with fail
   go_region
   go_wp2
   go_roundg (n - (k+1))
   case measure=>omega
   case rel=>
    refine⟨k+1,q+1,by omega,rfl,by go_num,rfl,fun j hj=>?_⟩
    by_cases e:j=k
    ·subst e
     rw[←HAB.out.1,←HAB.out.2]
    exact HA.out j (by omega)
  have hne:(!(a == b))=true:=by simpa using hab
  go_wp2_with fail
  go_region
  go_wp2
  go_ret
  refine⟨?_,q+1,rfl⟩
  have:¬ s=t:=fun e=>hab (by rw[HAB.out.1,HAB.out.2,e])
  rw[decide_eq_false this]
  rfl

theorem X3:(Tryz.prog.info? 4).map (fun i=>(i.zero,i.size,i.bytes))=some (some (.bool false),1,1):=by kernel_rfl
def QT (s:SetL) (i:Nat):List Value:=[.bool (inS s i)]
theorem K6 (s:SetL) {w:World} {g:Nat} (h:SetAt w g s):∀j u,((List.range s.length).flatMap (QT s))[j]?=some u→w.cell? ((⟨g,0,none⟩:Addr).add j)=some u:=fun j u hj=>by
 have hl:=qI (cs:=QT s) (size:=1) s.length (fun _ _=>rfl)
 have hlt:j<s.length:=by
  have:=(List.getElem?_eq_some_iff.1 hj).1
  omega
 have h2:=zm (cs:=QT s) (size:=1) s.length (fun _ _=>rfl) j 0 hlt (by omega)
 rw[Nat.mul_one,Nat.add_zero]at h2
 rw[h2]at hj
 have:Value.bool (inS s j)=u:=by simpa[QT]using hj
 rw[zw,Nat.zero_add,←this]
 exact h.cell j hlt
theorem J4 (g c:Nat) (s:SetL) (w:World) (h:SetAt w g s) (hs:s.length≤1000) :
  Calls Tryz.prog 116 #[.slice (some ⟨g,0,none⟩) s.length c] w fun e w'=>∃g' c',e = .returned (.slice (some ⟨g',0,none⟩) s.length c')∧w.heap.size≤g'∧SetAt w' g' s∧Below w.heap.size w w':=by
 obtain⟨i1,k1,k2,k3,k4⟩:=info_parts X3
 have he:∀w:World,(binOp .eql 169 (.slice (some ⟨g,0,none⟩) s.length c) (.slice none 0 0)).run Tryz.prog w = .ok (.bool false) w:=fun _=>rfl
 have HT:=q7 h
 rcases Nat.eq_zero_or_pos s.length with h0|h0
 ·rw[h0]at he ⊢
  have HZ:=q7 h0
  clear h h0
  go_enter Tryz.func116,Tryz.ntmps116
  go_wp2_with (at_builtin;refine wpList_append_row rfl (.tmp 5) (.tmp 6) 169 rfl 4 i1 1 Tryz.underlying169 k1 k3 w.heap.size 0 0 #[] rfl ⟨qr _ _,rfl,by decide⟩ ⟨g,0,none⟩ 0 c [] rfl rfl (by simp) (by simp) (by omega) ?_)
  go_ret
  refine⟨w.heap.size,0,rfl,Nat.le_refl _,?_,?_⟩
  ·exact⟨⟨_,setRow_heap _ _ _ _ _ _ (qr _ _)⟩,fun i hi=>by have:=HZ.out;omega⟩
  exact((Below.refl _ w).alloc (Nat.le_refl _) _).trans ((RowAt.keep (e:=4) (cap:=0) (size:=1) (cur:=#[]) ⟨qr _ _,rfl,by decide⟩ _).below (by simp) fun i e=>by(have e:i=w.heap.size:=e);omega)
 have hpos:=h0
 clear h h0
 go_enter Tryz.func116,Tryz.ntmps116
 go_wp2_with (at_builtin;refine wpList_append_own _ rfl (.tmp 5) (.tmp 6) 169 rfl w.heap.size 4 i1 _ 1 1 Tryz.underlying169 k1 k2 k3 k4 rfl (by decide) _ 0 [] rfl ?c0 ⟨g,0,none⟩ s.length c ((List.range s.length).flatMap (QT s)) rfl ?c1 ?c2 ?c3 ?c4 ?c5 ?c6 ?_)
 case c0=>exact ji (qr _ _) (Nat.le_refl _)
 case c1=>rw[qI (size:=1) _ fun _ _=>rfl]
 case c2=>exact K6 s (HT.out.below ((Below.refl _ w).alloc (Nat.le_refl _) _))
 case c3=>exact xk fun i _ u hu=>by rw[List.mem_singleton.1 hu];rfl
 case c4=>unfold maxLen;omega
 case c5=>omega
 case c6=>simp
 intro v' w' hown hg _
 have hw:v'.ownBlock≠none∧∀g',v'.ownBlock=some g'→∃cap cur,v' = .slice (some ⟨g',0,none⟩) s.length cap∧w.heap.size≤g'∧w'.heap[g']?=some (.cells cur 4 (0,0))∧cur.toList.take s.length=(List.range s.length).flatMap (QT s):=by
  rcases hown.2 with⟨h1,h2⟩|⟨g',cap,cur,h1,h2,h3,_,_,_,h4⟩
  ·omega
  rw[h1]
  refine⟨fun e=>(by cases e),fun g2 e=>?_⟩
  cases e
  refine⟨cap,cur,?_,h2,h3,?_⟩
  ·simp
  simpa using h4
 obtain⟨g',hg'⟩:∃g',v'.ownBlock=some g':=by
  cases e:v'.ownBlock with
  | none=>exact absurd e hw.1
  | some g'=>exact⟨g',rfl⟩
 obtain⟨cap,cur,rfl,h2,h3,h4⟩:=hw.2 g' hg'
 have HS:Hid (SetAt w' g' s):=q7 ⟨⟨_,h3⟩,fun i hi=>by
  have h5:=zm (cs:=QT s) (size:=1) s.length (fun _ _=>rfl) i 0 hi (by omega)
  rw[←h4,Nat.mul_one,Nat.add_zero,List.getElem?_take_of_lt hi,Array.getElem?_toList]at h5
  rw[cell_of_row w' g' i cur _ (0,0) h3,h5]
  rfl⟩
 have HB:Hid (Below w.heap.size w w'):=q7 (Below.grown bZ hg (by simp) (fun b e=>by cases e;exact Nat.le_refl _))
 clear hown hg hw hg' h3 h4
 go_wp2
 go_ret
 exact⟨g',cap,rfl,h2,HS.out,HB.out⟩
end Go.Proofs.YtecdphhdmjmmnaaGreatDoor
namespace Go.Proofs
open Go.Shelf Go.Sort Go.RowKit Go.Lib
end Go.Proofs
namespace Go.Proofs.YtecdphhdmjmmnaaGreatDoor
open Go.RowKit Go.Shelf Go.Lib Go.Sort

theorem idxI_at {xs:List Int} {x:Int} {k:Nat} (hk:k<xs.length) (h:xs[k]=x) (hv:∀j (h:j<xs.length),j<k→xs[j]≠x):xs.idxOf x=k:=by
 have h1:xs.idxOf x<xs.length:=List.idxOf_lt_length_iff.2 (h ▸ List.getElem_mem hk)
 have h2:xs[xs.idxOf x]=x:=List.getElem_idxOf h1
 rcases Nat.lt_trichotomy (xs.idxOf x) k with g|g|g
 ·exact absurd h2 (hv _ h1 g)
 ·exact g
 have:=List.not_of_lt_findIdx (p:=(· == x)) (xs:=xs) (i:=k) g
 simp[h]at this
theorem K7 (xs:List Int) (p:Option Addr) (c:Nat) (x:Int) (w:World) (hn:xs.length≤1000000) (h:SliceAt w 1 xC p xs) :
  Calls Tryz.prog 124 #[.slice p xs.length c,.int .i64 x] w fun e w'=>e = .returned (.int .i64 (if x∈xs then(xs.idxOf x:Int)else -1))∧w'=w:=by
 have HC:=q7 h
 clear h
 obtain⟨R,hR⟩:∃R:Int,R=if x∈xs then(xs.idxOf x:Int)else -1:=⟨_,rfl⟩
 rw[←hR]
 have HR:=q7 hR
 clear hR
 go_enter Tryz.func124,Tryz.ntmps124
 go_wp2
 go_loop [8] (fun i=>∃k:Nat,k≤xs.length∧i = .int .i64 k∧∀j (h:j<xs.length),j<k→xs[j]≠x) (fun i=>xs.length - (intOf i).toNat)
 case atStart=>exact⟨0,by omega,rfl,fun j _ hj=>by omega⟩
 case round=>
  obtain⟨k,hk,rfl,hV⟩:=hrel
  have HV:=q7 hV
  clear hV
  by_cases hlt:k<xs.length
  ·obtain⟨b,o,hp,c0,he3⟩:=Qn HC.out (Below.refl _ w) hlt
   subst hp
   have Hlt:=q7 hlt
   have HI:=q7 he3
   clear he3
   by_cases he:xs[k]=x
   ·have HE:=q7 he
    have hq:(x == xs[k])=true:=by simp[he]
    clear he
    go_wp2
    go_ret
    refine⟨?_,rfl⟩
    rw[HR.out,if_pos (HE.out ▸ List.getElem_mem Hlt.out),idxI_at Hlt.out HE.out HV.out]
    rfl
   have HE:=q7 he
   have hq:(x == xs[k])=false:=by rw[beq_eq_false_iff_ne];exact fun e=>he e.symm
   clear he
   go_wp2
   refine⟨⟨k+1,by omega,by go_num,fun j h1 hj=>?_⟩,by simp[intOf];omega⟩
   by_cases hj2:j<k
   ·exact HV.out j h1 hj2
   obtain rfl:j=k:=by omega
   exact HE.out
  have hno:x∉xs:=fun hx=>by
   obtain⟨j,hj,e⟩:=List.mem_iff_getElem.1 hx
   exact HV.out j hj (by omega) e
  have HNo:=q7 hno
  clear hno
  go_wp2
  go_ret
  refine⟨?_,rfl⟩
  rw[HR.out,if_neg HNo.out]
  rfl
theorem SlO.rowI {w:World} {v:Value} {xs:List Int} {S:Blks} (h:SlO 3 1 kP w v xs S):w.ownsRow 0 3 1 v xs.length (xs.map (.int .i64))∧(∀x∈xs,I64 x)∧(∀g,v.ownBlock=some g→S g)∧InB w S:=by
 obtain⟨cs,T,h⟩:=h
 refine⟨?_,fun x hx=>?_,h.blk,h.inb⟩
 ·have:=h.own
  have e:(List.range xs.length).flatMap cs=xs.map (.int .i64):=by
   refine List.ext_getElem? fun j=>?_
   have hl:=qI xs.length h.len
   rcases Nat.lt_or_ge j xs.length with g|g
   ·have h2:=zm (size:=1) xs.length h.len j 0 g (by omega)
    rw[Nat.mul_one,Nat.add_zero]at h2
    rw[h2,(h.el j g).1]
    simp[g]
   rw[List.getElem?_eq_none (by rw[hl];omega),List.getElem?_eq_none (by simpa using g)]
  rwa [e]at this
 obtain⟨i,hi,rfl⟩:=List.getElem_of_mem hx
 exact(h.el i hi).2
theorem SlO.ofRowI {w:World} {v:Value} {xs:List Int} {S:Blks} (h:w.ownsRow 0 3 1 v xs.length (xs.map (.int .i64))) (hx:∀x∈xs,I64 x) (hv:∀g,v.ownBlock=some g→S g) (hS:InB w S):SlO 3 1 kP w v xs S:=by
 refine⟨fun i=>[.int .i64 (xs.getD i 0)],fun _ _=>False,⟨?_,fun _ _=>rfl,fun i _ u hu=>?_,fun i hi=>⟨?_,hx _ (List.getElem_mem hi)⟩,fun _ _ _ _ _ _ a _=>a,fun _ _ _ _ a=>a,hv,fun _ _ _ a=>a.elim,hS⟩⟩
 ·have e:(List.range xs.length).flatMap (fun i=>[Value.int .i64 (xs.getD i 0)])=xs.map (.int .i64):=by
   refine List.ext_getElem? fun j=>?_
   have hl:=qI (cs:=fun i=>[Value.int .i64 (xs.getD i 0)]) (size:=1) xs.length (fun _ _=>rfl)
   rcases Nat.lt_or_ge j xs.length with g|g
   ·have h2:=zm (cs:=fun i=>[Value.int .i64 (xs.getD i 0)]) (size:=1) xs.length (fun _ _=>rfl) j 0 g (by omega)
    rw[Nat.mul_one,Nat.add_zero]at h2
    rw[h2]
    simp[List.getD,g]
   rw[List.getElem?_eq_none (by rw[hl];omega),List.getElem?_eq_none (by simpa using g)]
  rw[e]
  exact h
 ·rw[List.mem_singleton.1 hu];rfl
 simp[List.getD,hi]

end Go.Proofs.YtecdphhdmjmmnaaGreatDoor
namespace Go.Proofs.YtecdphhdmjmmnaaGreatDoor
open Go.RowKit

structure InsAt (w:World) (L I R:Nat) (ins:List SetL) (gs:Nat→Nat):Prop where
 blk:∃cur,w.heap[I]?=some (.cells cur 169 (0,0))
 cell:∀b,b<ins.length→∃c,w.cell? ⟨I,b,none⟩=some (.slice (some ⟨gs b,0,none⟩) R c)
 set:∀b,b<ins.length→SetAt w (gs b) (ins.getD b [])∧(ins.getD b []).length=R
 low:L≤I∧∀b,b<ins.length→L≤gs b∧gs b≠I
theorem InsAt.lt {w:World} {L I R:Nat} {ins:List SetL} {gs:Nat→Nat} (h:InsAt w L I R ins gs):I<w.heap.size:=by
 obtain⟨_,h⟩:=h.blk
 exact q9 h
theorem InsAt.below {w w':World} {L I R:Nat} {ins:List SetL} {gs:Nat→Nat} (h:InsAt w L I R ins gs) (hb:Below w.heap.size w w'):InsAt w' L I R ins gs:=
 ⟨by rw[hb.block I h.lt];exact h.blk,fun b hb2=>by
  obtain⟨c,hc⟩:=h.cell b hb2
  exact⟨c,(hb.cell (p:=⟨I,b,none⟩) h.lt).trans hc⟩,fun b hb2=>⟨(h.set b hb2).1.below hb,(h.set b hb2).2⟩,h.low⟩
def AhdAt (w:World) (A n:Nat):Prop:=∀t,t<n→∃p c ws,w.cell? ⟨A,t,none⟩=some (.slice p (List.length ws) c)∧ws.length≤1000000∧SliceAt w 1 xC p ws
theorem AhdAt.below {w w':World} {A n:Nat} (h:AhdAt w A n) (hb:Below w.heap.size w w'):AhdAt w' A n:=fun t ht=>by
 obtain⟨p,c,ws,h1,h2,h3⟩:=h t ht
 exact⟨p,c,ws,(hb.cell (p:=⟨A,t,none⟩) (q8 h1)).trans h1,h2,h3.mono hb (by omega) fun _ _ h=>h⟩
def orS (R k:Nat) (s t:SetL):SetL:=(List.range R).map fun r=>inS s r || (decide (r<k)&&inS t r)
theorem QU {R:Nat} {u:Nat→Bool} {r:Nat} (h:r<R):inS ((List.range R).map u) r=u r:=by
 unfold inS
 rw[List.getD_eq_getElem?_getD,List.getElem?_eq_getElem (by simpa using h)]
 simp
theorem JJ {s t:SetL} (hl:s.length=t.length) (h:∀r,r<s.length→inS s r=inS t r):s=t:=List.ext_getElem hl fun i h1 h2=>by
 have:=h i h1
 unfold inS at this
 rw[List.getD_eq_getElem?_getD,List.getD_eq_getElem?_getD,List.getElem?_eq_getElem h1,List.getElem?_eq_getElem h2]at this
 exact this
theorem vd (R k:Nat) (s t:SetL):(orS R k s t).length=R:=by simp[orS]
theorem orS_zero {R:Nat} {s t:SetL} (h:s.length=R):orS R 0 s t=s:=JJ (by rw[vd,h]) fun r hr=>by
 rw[vd]at hr
 unfold orS
 rw[QU hr]
 simp
theorem orS_succ {R k:Nat} {s t:SetL} (h:k<R):(orS R k s t).set k (inS (orS R k s t) k || inS t k)=orS R (k+1) s t:=JJ (by simp[vd]) fun r hr=>by
 rw[List.length_set,vd]at hr
 rw[QO,vd]
 unfold orS
 rw[QU hr,QU h,QU hr]
 by_cases e:k=r
 ·subst e
  simp[h]
 have:decide (r<k+1)=decide (r<k):=by rw[decide_eq_decide];omega
 rw[if_neg (fun h=>e h.1),this]
theorem orS_all {R:Nat} {ins:List SetL} {ts:List Int} {i:Nat} (hi:i<ts.length):orS R R (QN R ins (ts.take i)) (ins.getD ts[i].toNat [])=QN R ins (ts.take (i+1)):=JJ (by rw[vd,xn]) fun r hr=>by
 rw[vd]at hr
 unfold orS
 rw[QU hr,QP,QP,List.take_succ_eq_append_getElem hi,List.any_append]
 simp[hr]

theorem K8 (f:FunL) (R b:Nat) (fp:Option Addr) (fc A I ic L:Nat) (ins:List SetL) (gs:Nat→Nat) (w:World) (hR:f.regs=R) (hRb:R≤100) (hb:b<f.blocks.length) (hn:f.blocks.length≤40) (hF:SliceAt w 6 (BlkR w) fp f.blocks) (hph:∀x∈f.blocks,x.phis=[]) (hts:∀t∈f.blocks[b].fin.to,1≤t∧t<(f.blocks.length:Int)) (htl:f.blocks[b].fin.to.length≤2) (hA:AhdAt w A f.blocks.length) (hI:InsAt w L I R ins gs) (hIl:ins.length=f.blocks.length) :
  Calls Tryz.prog 115 #[.agg #[.string f.name,.int .i64 f.params,.int .i64 f.regs,.slice fp f.blocks.length fc],.slice (some ⟨A,0,none⟩) f.blocks.length f.blocks.length,.slice (some ⟨I,0,none⟩) f.blocks.length ic,.int .i64 b] w fun e w'=>e = .returned (.slice (some ⟨w.heap.size+1,0,none⟩) R R)∧SetAt w' (w.heap.size+1) (QN R ins f.blocks[b].fin.to)∧Below w.heap.size w w':=by
 obtain⟨i1,k1,k2,k3,k4⟩:=info_parts X3
 have hmk:=run_make_row 169 4 i1 (.bool false) Tryz.underlying169 k1 k2 k3 rfl .i64 .i64 R (by rw[k4];omega) (by omega)
 have HF:=q7 hF
 have HPh:=q7 hph
 have HTs:=q7 hts
 have hAz:0<f.blocks.length:=by omega
 have hA0:A<w.heap.size:=by obtain⟨_,_,_,h,_⟩:=hA 0 hAz;exact q8 h
 have HA:=q7 hA
 have HI:=q7 hI
 have HIl:=q7 hIl
 obtain⟨bb,bo,q1,c1,q2,c2,q3,c3,hp,e0,e1,e2,e3,e4,e5,_,_,_,_,_,_,_,hto⟩:=zE hF (Below.refl _ _) hb
 subst hp
 have bz:=q8 e0
 have HTo:=q7 hto
 generalize hg:f.blocks[b].fin.to=ts at *
 have h0:(f.blocks[b].phis.length:Int)=0:=by rw[hph _ (List.getElem_mem hb)];rfl
 have HF0:=q7 h0
 clear hF hph hts hA hI hto hg hIl h0
 rw[hR]
 clear hR
 go_enter Tryz.func115,Tryz.ntmps115
 go_wp2_with fail
 obtain⟨W0,hW0⟩:∃W0,W0=(((w.alloc (.cells #[.string f.name,.int .i64 f.params,.int .i64 R,.slice (some ⟨bb,bo,none⟩) f.blocks.length fc] 37)).alloc (.cells (madeCells #[.bool false] R) 4)).alloc (.cells #[.slice q1 f.blocks[b].phis.length c1,.slice q2 f.blocks[b].list.length c2,.int .i64 f.blocks[b].fin.kind,.bool f.blocks[b].fin.onr,.int .i64 f.blocks[b].fin.onn,.slice q3 ts.length c3] 48)):=⟨_,rfl⟩
 rw[←hW0]
 have hz0:W0.heap.size=w.heap.size+1+1+1:=by rw[hW0];simp
 have hb0:Below w.heap.size w W0:=by rw[hW0];exact bZ
 have hFb:W0.heap[w.heap.size]?=some (.cells #[.string f.name,.int .i64 f.params,.int .i64 R,.slice (some ⟨bb,bo,none⟩) f.blocks.length fc] 37 (0,0)):=by rw[hW0];exact qj (qj (qh rfl))
 have hS0:SetAt W0 (w.heap.size+1) (QN R ins []):=by
  have h1:=World.rowIs_made (w.alloc (.cells #[.string f.name,.int .i64 f.params,.int .i64 R,.slice (some ⟨bb,bo,none⟩) f.blocks.length fc] 37)) (.bool false) R 4
  have e1:(w.alloc (.cells #[.string f.name,.int .i64 f.params,.int .i64 R,.slice (some ⟨bb,bo,none⟩) f.blocks.length fc] 37)).heap.size=w.heap.size+1:=by simp
  rw[e1]at h1
  have h2:=h1.alloc (.cells #[.slice q1 f.blocks[b].phis.length c1,.slice q2 f.blocks[b].list.length c2,.int .i64 f.blocks[b].fin.kind,.bool f.blocks[b].fin.onr,.int .i64 f.blocks[b].fin.onn,.slice q3 ts.length c3] 48)
  rw[←hW0]at h2
  refine⟨?_,fun r hr=>?_⟩
  ·obtain⟨cs,hcs⟩:=h2
   exact⟨cs,hcs.1⟩
  rw[xn]at hr
  rw[h2.cell hr,QP]
  simp
 have HB0:=q7 hb0
 have HFb:=q7 hFb
 have HS0:=q7 hS0
 clear hW0 hb0 hFb hS0 hmk e0 e1 e2 e3 e4 e5
 go_loopg [31] ts.length (fun m s wr=>∃i:Nat,i≤ts.length∧m=ts.length - i∧s = .int .i64 i∧SetAt wr (w.heap.size+1) (QN R ins (ts.take i))∧Below (w.heap.size+1) W0 wr)
 case atStart=>exact⟨0,by omega,rfl,rfl,HS0.out,Below.refl _ _⟩
 case round=>
  obtain⟨wp,hwp⟩:∃wp,wp=wr:=⟨_,rfl⟩
  subst hwp
  obtain⟨i,hi,rfl,rfl,hs,hb⟩:=hrel
  have HS:=q7 hs
  have HB:=q7 hb
  have hbw:Below w.heap.size w wp:=HB0.out.trans (hb.mono (by omega))
  have HBw:=q7 hbw
  have hzp:=hb.size
  have hFp:=(hb.block w.heap.size (by omega)).trans HFb.out
  have f3:wp.cell? ⟨w.heap.size,3,none⟩=some (.slice (some ⟨bb,bo,none⟩) f.blocks.length fc):=(blk hFp).1 3
  have fz:=q9 hFp
  clear hs hb hbw
  by_cases hlt:i<ts.length
  rotate_left
  ·obtain rfl:i=ts.length:=by omega
   have hfin:=HS.out
   rw[List.take_length]at hfin
   have HFin:=q7 hfin
   clear hfin f3
   go_wp2_with fail
   go_ret
   exact⟨rfl,HFin.out,HBw.out⟩
  have hti:=HTs.out _ (List.getElem_mem hlt)
  obtain⟨t,ht⟩:∃t:Nat,ts[i]=(t:Int):=⟨ts[i].toNat,by omega⟩
  have htn:t<f.blocks.length:=by omega
  obtain⟨tb,tp,hq3,ct,_⟩:=Qn HTo.out HBw.out hlt
  subst hq3
  rw[ht]at ct
  have tz:=q8 ct
  obtain⟨b2,o2,p1,d1,p2,d2,p3,d3,hp2,g0,g1,g2,g3,g4,g5,_⟩:=zE HF.out HBw.out htn
  obtain⟨rfl,rfl⟩:bb=b2∧bo=o2:=by cases hp2;exact⟨rfl,rfl⟩
  have hlD:f.blocks[t].phis.length=0:=by rw[HPh.out _ (List.getElem_mem htn)];rfl
  rw[hlD]at g0
  have HIw:=q7 (HI.out.below HBw.out)
  have hgO:t<ins.length:=by have:=HIl.out;omega
  obtain⟨ci,hci⟩:=HIw.out.cell t hgO
  obtain⟨hst,hlE⟩:=HIw.out.set t hgO
  have hlo:=HIw.out.low.2 t hgO
  have iz:=HIw.out.lt
  obtain⟨pa,ca,ws,ha0,ha2,ha3⟩:=HA.out t htn
  have ha1:wp.cell? ⟨A,t,none⟩=some (.slice pa ws.length ca):=(HBw.out.cell (p:=⟨A,t,none⟩) hA0).trans ha0
  have az:=q8 ha1
  have HT:=q7 ht
  have t0:(0:Int)≤(t:Int):=by omega
  have t1:(t:Int)<f.blocks.length:=by omega
  have HSt:=q7 (And.intro hst hlE)
  have HA3:=q7 ha3
  have bbz:=q8 g0
  clear hst hlE ha3 hti ht hlD ha0
  go_wp2_with fail
  obtain⟨W1,hW1⟩:∃W1,W1=wp.alloc (.cells #[.slice p1 0 d1,.slice p2 f.blocks[t].list.length d2,.int .i64 f.blocks[t].fin.kind,.bool f.blocks[t].fin.onr,.int .i64 f.blocks[t].fin.onn,.slice p3 f.blocks[t].fin.to.length d3] 48):=⟨_,rfl⟩
  rw[←hW1]
  have hb1:Below wp.heap.size wp W1:=by rw[hW1];exact bZ
  have hT1:W1.heap[wp.heap.size]?=some (.cells #[.slice p1 0 d1,.slice p2 f.blocks[t].list.length d2,.int .i64 f.blocks[t].fin.kind,.bool f.blocks[t].fin.onr,.int .i64 f.blocks[t].fin.onn,.slice p3 f.blocks[t].fin.to.length d3] 48 (0,0)):=by rw[hW1];exact qh rfl
  have hz1:W1.heap.size=wp.heap.size+1:=by rw[hW1];simp
  have HB1:=q7 hb1
  have HT1:=q7 hT1
  have HS1:=q7 (HS.out.below hb1)
  have HR1:=q7 (HSt.out.1.below hb1)
  have HIx:=q7 (And.intro ha1 ha2)
  have hgn:gs t≠w.heap.size+1:=by have:=(HI.out.set t hgO).1.lt;omega
  clear hW1 hb1 hT1 g0 g1 g2 g3 g4 g5 hci ct f3 ha1
  go_loopg [45] R (fun m s wr=>∃r:Nat,r≤R∧m=R - r∧s = .int .i64 r∧SetAt wr (w.heap.size+1) (orS R r (QN R ins (ts.take i)) (ins.getD t []))∧Kept (fun b=>b=w.heap.size+1) W1 wr)
  case atStart=>exact⟨0,by omega,rfl,rfl,by rw[orS_zero (xn _ _ _)];exact HS1.out,Kept.refl _ _⟩
  case round=>
   obtain⟨wq,hwq⟩:∃wq,wq=wr:=⟨_,rfl⟩
   subst hwq
   obtain⟨r,hr,rfl,rfl,hs,hk⟩:=hrel
   have HSr:=q7 hs
   have HK:=q7 hk
   have hzq:=hk.size
   clear hs hk
   by_cases hrt:r<R
   ·obtain⟨a,ha⟩:∃a,a=inS (orS R r (QN R ins (ts.take i)) (ins.getD t [])) r:=⟨_,rfl⟩
    obtain⟨z,hz⟩:∃z,z=inS (ins.getD t []) r:=⟨_,rfl⟩
    have ea:wq.cell? ⟨w.heap.size+1,r,none⟩=some (.bool a):=by rw[ha];exact HSr.out.cell r (by rw[vd];exact hrt)
    have ez:wq.cell? ⟨gs t,r,none⟩=some (.bool z):=by
     rw[hz]
     refine(HK.out.cell (p:=⟨gs t,r,none⟩) HR1.out.lt hgn).trans (HR1.out.cell r (by rw[HSt.out.2];exact hrt))
    have fa:=HSr.out.frozen r
    have za:=q8 ea
    have zz:=q8 ez
    have r0:(0:Int)≤(r:Int):=by omega
    have r1:(r:Int)<R:=by omega
    have hnx:SetAt (wq.setCell ⟨w.heap.size+1,r,none⟩ (.bool (a || z))) (w.heap.size+1) (orS R (r+1) (QN R ins (ts.take i)) (ins.getD t [])):=by
     rw[←orS_succ hrt,←ha,←hz]
     exact HSr.out.set r _
    have HNx:=q7 hnx
    clear ha hz hnx
    cases a
    ·go_wp2_with fail
     go_roundg (R - (r+1))
     case measure=>omega
     case rel=>exact⟨r+1,by omega,rfl,by go_num,HNx.out,HK.out.setCell (p:=⟨w.heap.size+1,r,none⟩) rfl _⟩
    go_wp2_with fail
    go_roundg (R - (r+1))
    case measure=>omega
    case rel=>exact⟨r+1,by omega,rfl,by go_num,HNx.out,HK.out.setCell (p:=⟨w.heap.size+1,r,none⟩) rfl _⟩
   obtain rfl:r=R:=by omega
   have hi7:=HSr.out
   have hor:=orS_all (R:=r) (ins:=ins) hlt
   rw[HT.out,Int.toNat_natCast]at hor
   rw[hor]at hi7
   have hbq:Below w.heap.size w wq:=(HBw.out.trans (HB1.out.mono HBw.out.size)).trans (HK.out.below (by omega) fun i e=>by(have e:i=w.heap.size+1:=e);omega)
   have gA:wq.cell? ⟨A,t,none⟩=some (.slice pa ws.length ca):=(HK.out.cell (p:=⟨A,t,none⟩) (by show A<_;omega) (by show ¬ A=_;omega)).trans ((HB1.out.cell (p:=⟨A,t,none⟩) az).trans HIx.out.1)
   have gT:=(HK.out.block wp.heap.size (by omega) (by omega)).trans HT1.out
   have gT0:wq.cell? ⟨wp.heap.size,0,none⟩=some (.slice p1 0 d1):=(blk gT).1 0
   have gTz:=q9 gT
   have gAz:=q8 gA
   have hix:=K7 ws pa ca (b:Int) wq ha2 (HA3.out.mono hbq (by omega) fun _ _ h=>h)
   obtain⟨K,hK⟩:∃K:Int,K=if(b:Int)∈ws then(ws.idxOf (b:Int):Int)else -1:=⟨_,rfl⟩
   rw[←hK]at hix
   have HIX:=q7 hix
   have HOr:=q7 hi7
   have HBq:=q7 (HB.out.trans ((HB1.out.mono (by omega)).trans (HK.out.below (by omega) fun i e=>by(have e:i=w.heap.size+1:=e);omega)))
   clear hix hK hi7 hor hbq gT
   go_wp2_with (go_at_call 124;refine HIX.out.mono ?_;rintro e w2 ⟨rfl,rfl⟩)
   obtain⟨W2,hW2⟩:∃W2,W2=w2:=⟨_,rfl⟩
   subst hW2
   clear gA gT0 gTz gAz
   go_loopg [70] 0 (fun m s wr=>m=0∧s = .int .i64 0∧wr=W2)
   case atStart=>exact⟨rfl,rfl,rfl⟩
   case round=>
    obtain⟨rfl,rfl,rfl⟩:=hrel
    go_wp2_with fail
    go_roundg (ts.length - (i+1))
    case measure=>omega
    case rel=>exact⟨i+1,by omega,rfl,by go_num,HOr.out,HBq.out⟩

theorem xK (nm:ByteArray) (params regs:Int) (bb bo bc n:Nat) (TS:List (List Int)) (w:World) (hn:n≤40)
  (hB:∀i,i<n→Jn w bb bo i (TS.getD i []))
  (hE:∀i,i<n→(TS.getD i []).length≤2∧∀t∈TS.getD i [],1≤t∧t<n) :
  Calls Tryz.prog 101 #[.agg #[.string nm,.int .i64 params,.int .i64 regs,.slice (some ⟨bb,bo,none⟩) n bc]] w fun e w'=>
   (∃f:Nat→Value,e = .returned (.slice (some ⟨w.heap.size+1,0,none⟩) n n)∧Rows2 w' (w.heap.size+1+1) (w.heap.size+1) n 44 3 (qJ TS n) f)∧Below w.heap.size w w':=by
 obtain⟨i1,k1,k2,k3,k4⟩:=info_parts Jm
 obtain⟨i2,l1,l2,l3,l4⟩:=info_parts V0
 have hmk:=run_make_row 59 44 i2 (.slice none 0 0) Xm l1 l2 l3 rfl .i64 .i64 n (by rw[l4];omega) (by omega)
 have HB:Hid (∀i,i<n→Jn w bb bo i (TS.getD i [])):=hB
 have HE:Hid (∀i,i<n→(TS.getD i []).length≤2∧∀t∈TS.getD i [],1≤t∧t<n):=hE
 clear hB hE
 go_enter Tryz.func101,Tryz.ntmps101
 go_wp2
 go_loopw [15] (fun i wr=>∃k:Nat,k≤n∧i = .int .i64 k∧(∃f,Rows2 wr (w.heap.size+1+1) (w.heap.size+1) n 44 3 (qJ TS k) f)∧Below w.heap.size w wr) (fun i _=>n - (intOf i).toNat)
 case atStart=>exact⟨0,by omega,rfl,⟨_,by have:=Rows2.made (w.alloc (.cells #[.string nm,.int .i64 params,.int .i64 regs,.slice (some ⟨bb,bo,none⟩) n bc] 37)) n 44 3;simpa[qJ]using this⟩,by exact bZ⟩
 case round=>
  obtain⟨k,hk,rfl,⟨f,hR⟩,hb⟩:=hrel
  have HBw:Hid (Below w.heap.size w wr):=hb
  have HR:Hid (Rows2 wr (w.heap.size+1+1) (w.heap.size+1) n 44 3 (qJ TS k) f):=hR
  have hsz:w.heap.size+1<wr.heap.size:=hR.tab.lt
  clear hb hR
  by_cases hlt:k<n
  rotate_left
  ·go_wp2
   go_ret
   obtain rfl:k=n:=by omega
   exact⟨⟨f,rfl,HR.out⟩,HBw.out⟩
  obtain⟨p1,m1,c1,p2,m2,c2,kk,r,m,p,c,e0,e1,e2,e3,e4,e5,hto⟩:=HB.out k hlt
  have hbb:=q8 e0
  rw[←HBw.out.cell (p:=⟨bb,bo+k*6,none⟩) hbb]at e0
  rw[←HBw.out.cell (p:=⟨bb,bo+k*6+1,none⟩) hbb]at e1
  rw[←HBw.out.cell (p:=⟨bb,bo+k*6+2,none⟩) hbb]at e2
  rw[←HBw.out.cell (p:=⟨bb,bo+k*6+3,none⟩) hbb]at e3
  rw[←HBw.out.cell (p:=⟨bb,bo+k*6+4,none⟩) hbb]at e4
  rw[←HBw.out.cell (p:=⟨bb,bo+k*6+5,none⟩) hbb]at e5
  obtain⟨hl2,hts⟩:=HE.out k hlt
  have HTO:Hid (SliceAt w 1 xC p (TS.getD k [])):=hto
  have HTS:Hid (∀t∈TS.getD k [],1≤t∧t<n):=hts
  clear hto hts
  generalize hto:TS.getD k []=tq at *
  have HK:Hid (TS.getD k []=tq):=hto
  clear hto
  go_wp2
  go_loopw [24] (fun i wq=>∃j:Nat,j≤tq.length∧i = .int .i64 j∧(∃f,Rows2 wq (w.heap.size+1+1) (w.heap.size+1) n 44 3 (qJ TS k++(tq.map fun t=>(t.toNat,k)).take j) f)∧Below w.heap.size w wq) (fun i _=>tq.length - (intOf i).toNat)
  case atStart=>exact⟨0,by omega,rfl,⟨f,by simpa using HR.out.alloc _⟩,by have:=HBw.out;exact this.alloc (by omega) _⟩
  case round=>
   clear HR HBw e0 e1 e2 e3 e4 e5
   obtain⟨j,hj,rfl,⟨f,hR⟩,hb⟩:=hrel
   have HBw:Hid (Below w.heap.size w wr):=hb
   have HR:Hid (Rows2 wr (w.heap.size+1+1) (w.heap.size+1) n 44 3 (qJ TS k++(tq.map fun t=>(t.toNat,k)).take j) f):=hR
   have hsz:w.heap.size+1<wr.heap.size:=hR.tab.lt
   clear hb hR
   by_cases hjl:j<tq.length
   rotate_left
   ·go_wp2
    obtain rfl:j=tq.length:=by omega
    refine⟨⟨k+1,by omega,by go_num,⟨f,?_⟩,HBw.out⟩,by simp[intOf];omega⟩
    have HR2:=HR.out
    rw[List.take_of_length_le (by simp)]at HR2
    unfold qJ
    rw[HK.out]
    exact HR2
   obtain⟨t,ht⟩:∃t:Nat,tq[j]=(t:Int):=⟨tq[j].toNat,by have:=(HTS.out _ (List.getElem_mem hjl)).1;omega⟩
   have htn:t<n:=by have:=(HTS.out _ (List.getElem_mem hjl)).2;omega
   obtain⟨tb,tof,hp,htc⟩:∃tb tof,p=some ⟨tb,tof,none⟩∧wr.cell? ⟨tb,tof+j,none⟩=some (.int .i64 t):=by
    rcases HTO.out with h0|⟨tb,tof,hp,hc⟩
    ·rw[h0]at hjl;simp at hjl
    refine⟨tb,tof,hp,?_⟩
    obtain⟨cs,_,hc,⟨rfl,_⟩⟩:=hc j hjl
    have h2:=hc 0 (by omega)
    simp only[Nat.mul_one,Nat.add_zero,List.getElem?_cons_zero]at h2
    rw[HBw.out.cell (p:=⟨tb,tof+j,none⟩) (q8 h2),h2,ht]
   subst hp
   have hrow:=HR.out.row t htn
   obtain⟨q,qc,hq⟩:∃q qc,f t = .slice q (qP (qJ TS k++(tq.map fun t=>(t.toNat,k)).take j) t).length qc:=by
    rcases hrow.2 with⟨h1,h2⟩|⟨g,cap,cur,h1,_⟩
    ·refine⟨none,0,?_⟩
     rw[h1,h2]
    exact⟨_,_,h1⟩
   have HQ:Hid (f t = .slice q (qP (qJ TS k++(tq.map fun t=>(t.toNat,k)).take j) t).length qc):=hq
   have hfc:=HR.out.tab.cell htn
   have hff:=HR.out.tab.frozen t
   rw[hq]at hfc hrow
   clear hq
   have HT:Hid (tq[j]?=some (t:Int)):=by show _=_;rw[List.getElem?_eq_getElem hjl,ht]
   clear ht
   have hm2:(qP (qJ TS k++(tq.map fun t=>(t.toNat,k)).take j) t).length≤2*k+2:=by
    have h1:=Qa (qJ TS k++(tq.map fun t=>(t.toNat,k)).take j) t
    have h2:=ke TS k n hk (fun i hi=>(HE.out i hi).1)
    rw[List.length_append,List.length_take,List.length_map]at h1
    omega
   generalize hm:(qP (qJ TS k++(tq.map fun t=>(t.toNat,k)).take j) t).length=m at *
   have HM:Hid ((qP (qJ TS k++(tq.map fun t=>(t.toNat,k)).take j) t).length=m):=hm
   clear hm
   go_wp2_with (at_builtin;refine wpList_append_own_at _ rfl _ _ 44 rfl (w.heap.size+1+1) 3 i1 (.int .i64 0) 1 8 Xl k1 k2 k3 k4 rfl (by decide) _ _ _ rfl (hrow.alloc _) ⟨wr.heap.size,0,none⟩ 1 1 [.int .i64 k] rfl rfl (cell_one_new _ _ _) (by simp[Value.oneCell']) ?_ ?_ ?_ ?_)
   ·unfold maxLen;omega
   ·omega
   ·simp;omega
   intro v' w1 hown' hgrow _ hat
   have HP:=(HR.out.alloc (.cells #[.int .i64 k] 3)).put (i:=k) (by simp;omega) htn (v':=v') (w':=w1) (by rw[HM.out];exact hown') (by rw[HQ.out];exact hgrow) (by rw[HQ.out];simpa using hat)
   obtain⟨q2,c2',hv2⟩:∃q2 c2,v' = .slice q2 (m+1) c2:=by
    rcases hown'.2 with⟨h1,h2⟩|⟨g,cap,cur,h1,_⟩
    ·omega
    exact⟨_,_,h1⟩
   subst hv2
   obtain⟨hc1,hf1⟩:=(HR.out.alloc (.cells #[.int .i64 k] 3)).atTab htn (w':=w1) (by rw[HQ.out];exact hgrow)
   rw[HQ.out]at hc1
   have hbw:=(HBw.out.alloc (by omega) (.cells #[.int .i64 k] 3)).grown hgrow (by simp;omega) (fun kk e=>by have:=(hrow.lt kk e).1;omega)
   have HB2:=q7 hbw
   have HP2:=q7 HP
   clear HP hown' hgrow hat hfc hff htc hrow hbw
   go_wp2
   refine⟨⟨j+1,by omega,by go_num,⟨fun i=>if i=t then Value.slice q2 (m+1) c2' else f i,?_⟩,?_⟩,by simp[intOf];omega⟩
   ·rw[List.take_add_one,List.getElem?_map,HT.out]
    have HP3:=HP2.out
    rw[List.append_assoc]at HP3
    exact HP3
   exact HB2.out.setCell (by show _≤w.heap.size+1;omega) _

def useI (r:Int) (x:InsL):Bool:=(qL x).any (isV r)
def J5 (r:Int) (x:InsL) (l:Bool):Bool:=useI r x || (l&&!(x.dst == r))
def xS (r:Int) (x:BlkL) (l:Bool):Bool:=x.list.foldr (J5 r) (isV r (x.fin.onr,x.fin.onn) || l)
inductive LiveP (f:FunL) (r:Int):Nat→Prop
 | here {b:Nat}:b<f.blocks.length→xS r (atF f b) false=true→LiveP f r b
 | next {b:Nat} {t:Int}:b<f.blocks.length→xS r (atF f b) true=true→t∈(atF f b).fin.to→LiveP f r t.toNat→LiveP f r b

theorem inS_tak {s:SetL} {v:Bool×Int} {r:Nat} (hv:v.1=true→0≤v.2∧v.2<(s.length:Int)):inS (vY s v) r=(inS s r || isV r v):=by
 unfold vY isV
 cases e:v.1
 ·simp
 have h:=hv e
 rw[if_pos rfl,QO]
 by_cases g:v.2.toNat=r
 ·rw[if_pos ⟨g,by omega⟩]
  have:v.2=(r:Int):=by omega
  simp[this]
 rw[if_neg (fun h=>g h.1)]
 have:(v.2 == (r:Int))=false:=by rw[beq_eq_false_iff_ne];omega
 simp[this]
theorem Vt {r:Nat}:∀{l:List (Bool×Int)} {s:SetL},(∀v∈l,v.1=true→0≤v.2∧v.2<(s.length:Int))→inS (l.foldl vY s) r=(inS s r || l.any (isV r))
 | [],s,_=>by simp
 | v::l,s,h=>by
  rw[List.foldl_cons,Vt (fun u hu=>by rw[ky];exact h u (.tail _ hu)),inS_tak (h v (.head _)),List.any_cons,Bool.or_assoc]
theorem Vu {regs:Int} {nf:Nat} {P:Nat→Int} {x:InsL} (h:InsC regs nf P x):∀v∈qL x,v.1=true→0≤v.2∧v.2<regs:=fun v hv e=>by
 unfold qL at hv
 rcases List.mem_append.1 hv with hv|hv
 ·rcases List.mem_append.1 hv with hv|hv
  ·split at hv
   ·rw[List.mem_singleton.1 hv]at e ⊢;exact h.a e
   cases hv
  split at hv
  ·rw[List.mem_singleton.1 hv]at e ⊢;exact h.b e
  cases hv
 by_cases c:x.op=20
 ·exact(h.call c).2.2 v hv e
 rw[List.eq_nil_of_length_eq_zero (h.c0 c).2]at hv
 cases hv
theorem inS_ahd {R r:Nat} {nf:Nat} {P:Nat→Int} {x:InsL} {s:SetL} (h:InsC R nf P x) (hs:s.length=R) (hr:r<R):inS (XZ s x) r=J5 r x (inS s r):=by
 have hd:(0≤x.dst∧x.dst<R)∨x.dst = -1:=by
  by_cases e:shD x.op=true∧¬(x.op=20∧x.dst = -1)
  ·exact .inl (h.d1 e.1 e.2)
  by_cases e2:shD x.op=true
  ·exact .inr (Classical.byContradiction fun g=>e ⟨e2,fun q=>g q.2⟩)
  exact .inr (h.d0 (by simpa using e2))
 unfold XZ J5 useI
 rw[Vt (fun v hv e=>by
  have:=Vu h v hv e
  split<;>(try rw[List.length_set])<;>omega),Bool.or_comm]
 congr 1
 split
 ·rw[QO]
  by_cases g:x.dst.toNat=r
  ·rw[if_pos ⟨g,by omega⟩]
   have:x.dst=(r:Int):=by omega
   simp[this]
  rw[if_neg (fun h=>g h.1)]
  have:(x.dst == (r:Int))=false:=by rw[beq_eq_false_iff_ne];omega
  simp[this]
 have:(x.dst == (r:Int))=false:=by rw[beq_eq_false_iff_ne];omega
 simp[this]
theorem Zn {r:Int} {x:BlkL} {a b:Bool} (h:a=true→b=true) (g:xS r x a=true):xS r x b=true:=by
 unfold xS at g ⊢
 have:∀l:List InsL,l.foldr (J5 r) (isV r (x.fin.onr,x.fin.onn) || a)=true→l.foldr (J5 r) (isV r (x.fin.onr,x.fin.onn) || b)=true:=by
  intro l
  induction l with
  | nil=>
   intro g
   simp only[List.foldr_nil,Bool.or_eq_true]at g ⊢
   exact g.imp id h
  | cons i l ih=>
   intro g
   simp only[List.foldr_cons,J5,Bool.or_eq_true,Bool.and_eq_true]at g ⊢
   exact g.imp id fun q=>⟨ih q.1,q.2⟩
 exact this _ g

section
variable {nf : Nat} {P : Nat → Int} {f : FunL}
theorem JK (h:FunC nf P f) (ins:List SetL) {b r:Nat} (hb:b<f.blocks.length) (hr:r<f.regs.toNat):inS (J0 f ins b) r=xS r (atF f b) ((atF f b).fin.to.any fun t=>inS (ins.getD t.toNat []) r):=by
 have hR:(f.regs.toNat:Int)=f.regs:=by have:=h.par;have:=h.reg;omega
 unfold J0
 rw[show((atF f b).fin.to.any fun t=>inS (ins.getD t.toNat []) r)=inS (QN f.regs.toNat ins (atF f b).fin.to) r by rw[QP];simp[hr]]
 have hl:=xn f.regs.toNat ins (atF f b).fin.to
 generalize QN f.regs.toNat ins (atF f b).fin.to=s at *
 have hfin:=(h.fin b hb).on
 have hins:=h.ins b hb
 rw[←qG hb]at hfin hins
 unfold ahiS xS
 have:∀l:List InsL,(∀x∈l,x∈(atF f b).list)→inS (l.foldr (fun i s=>XZ s i) (vY s ((atF f b).fin.onr,(atF f b).fin.onn))) r=l.foldr (J5 r) (isV r ((atF f b).fin.onr,(atF f b).fin.onn) || inS s r)∧(l.foldr (fun i s=>XZ s i) (vY s ((atF f b).fin.onr,(atF f b).fin.onn))).length=f.regs.toNat:=by
  intro l
  induction l with
  | nil=>
   intro _
   refine⟨?_,by rw[List.foldr_nil,ky,hl]⟩
   rw[List.foldr_nil,inS_tak (fun e=>by have:=hfin e;simp only;omega),Bool.or_comm]
   rfl
  | cons i l ih=>
   intro g
   obtain⟨e1,e2⟩:=ih fun x hx=>g x (.tail _ hx)
   rw[List.foldr_cons,List.foldr_cons,←e1]
   exact⟨inS_ahd (nf:=nf) (P:=P) (by rw[hR];exact insC_iff.1 (hins i (g i (.head _)))) e2 hr,by rw[X0,e2]⟩
 exact(this _ fun _ h=>h).1
theorem Zo (h:FunC nf P f) {r:Nat} (hr:r<f.regs.toNat):∀n b,b<f.blocks.length→inS ((zQ f n).getD b []) r=true→LiveP f r b
 | 0,b,hb,g=>by
  exfalso
  unfold zQ Q8 inS at g
  rw[List.getD_eq_getElem?_getD,List.getD_eq_getElem?_getD,List.getElem?_replicate,if_pos hb]at g
  simp only[Option.getD_some,List.getElem?_replicate]at g
  split at g<;>cases g
 | n+1,b,hb,g=>by
  have ih:=Zo h hr n
  have key:∀k,k≤f.blocks.length→∀c,c<f.blocks.length→inS ((turnTo f (zQ f n) k).1.getD c []) r=true→LiveP f r c:=by
   intro k
   induction k with
   | zero=>intro _ c hc g;exact ih c hc g
   | succ k ik=>
    intro hk c hc g
    have ik:=ik (by omega)
    rw[QQ]at g
    unfold kX at g
    split at g
    ·exact ik c hc g
    rw[kB]at g
    split at g
    ·next e=>
     obtain⟨e1,_⟩:=e
     subst e1
     rw[JK h _ hc hr]at g
     cases ha:(atF f k).fin.to.any fun t=>inS ((turnTo f (zQ f n) k).1.getD t.toNat []) r with
     | false=>rw[ha]at g;exact .here hc g
     | true=>
      rw[ha]at g
      obtain⟨t,ht,gt⟩:=List.any_eq_true.1 ha
      have hto:=(h.fin k hc).to t (by rw[←qG hc];exact ht)
      exact .next hc g ht (ik _ (by omega) gt)
    exact ik c hc g
  exact key _ (Nat.le_refl _) b hb g
theorem Vv (h:FunC nf P f) {b r:Nat} (hb:b<f.blocks.length) (hr:r<f.regs.toNat):inS ((jM f).getD b []) r=true↔LiveP f r b:=by
 refine⟨Zo h hr _ b hb,fun g=>?_⟩
 have hfix:=(jG f).2
 induction g with
 | here hb g=>
  rw[←hfix _ hb,JK h _ hb hr]
  exact Zn (fun e=>by cases e) g
 | @next b t hb g ht _ ih=>
  have hto:=(h.fin b hb).to t (by rw[←qG hb];exact ht)
  rw[←hfix _ hb,JK h _ hb hr,List.any_eq_true.2 ⟨t,ht,ih (by omega)⟩]
  exact g
theorem QV (h:FunC nf P f):qO f=true↔(∀b∈f.blocks,b.phis=[])∧∀r:Nat,f.params≤(r:Int)→(r:Int)<f.regs→¬ LiveP f r 0:=by
 unfold qO
 rw[Bool.and_eq_true,List.all_eq_true,List.all_eq_true]
 refine and_congr ⟨fun g b hb=>by simpa using g b hb,fun g b hb=>by simpa using g b hb⟩ ⟨fun g r h1 h2 h3=>?_,fun g r hr=>?_⟩
 ·have:=g r (List.mem_range.2 (by omega))
  rw[(Vv h h.n1 (by omega)).2 h3]at this
  simp only[Bool.not_true,Bool.false_or,decide_eq_true_eq]at this
  omega
 have hr:=List.mem_range.1 hr
 cases e:inS ((jM f).getD 0 []) r with
 | false=>rfl
 | true=>
  have:=(Vv h h.n1 hr).1 e
  simp only[Bool.not_true,Bool.false_or,decide_eq_true_eq]
  exact Classical.byContradiction fun hn=>g r (by omega) (by omega) this
end
end Go.Proofs.YtecdphhdmjmmnaaGreatDoor
