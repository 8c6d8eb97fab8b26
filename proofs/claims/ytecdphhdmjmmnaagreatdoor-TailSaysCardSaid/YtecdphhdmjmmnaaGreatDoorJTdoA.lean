/-
  The contract of tidy.Do.
-/
import Derived.Test.YtecdphhdmjmmnaaGreatDoorJEacA
import Derived.Test.YtecdphhdmjmmnaaGreatDoorJLarA
set_option maxRecDepth 100000
set_option maxHeartbeats 16000000
namespace Go.Proofs.YtecdphhdmjmmnaaGreatDoor
open Go.RowKit Go.Shelf

theorem X5 (u:UniL) (hu:ChkOk u) (q1 q2:Option Addr) (e1 e2:Nat) (w:World) (hG:SlF w 3 48 (GloR w) (.slice q1 u.globals.length e1) u.globals) (hF:SlF w 4 56 (FunR w) (.slice q2 u.funcs.length e2) u.funcs) :
  Calls Tryz.prog 32 #[.agg #[.slice q1 u.globals.length e1,.slice q2 u.funcs.length e2],.func (.func 33) #[] #[]] w fun e w'=>(∃p1 c1 p2 c2,e = .returned (.tuple #[.agg #[.slice p1 u.globals.length c1,.slice p2 u.funcs.length c2],.agg #[.int .i64 0,.int .i64 0]])∧
   ∃S,UniO w' [.slice p1 u.globals.length c1,.slice p2 u.funcs.length c2] (xB u) S∧LoB w.heap.size S)∧Below w.heap.size w w':=by
 have hlg:u.globals.length*48≤140737488351232:=hG.bdC
 have hlf:u.funcs.length*56≤140737488351232:=hF.bdC
 have hq1:q1=none→u.globals.length=0∧e1=0:=by
  obtain⟨p,c,e,h,_⟩:=hG.outC
  cases e
  exact h
 have hq2:q2=none→u.funcs.length=0∧e2=0:=by
  obtain⟨p,c,e,h,_⟩:=hF.outC
  cases e
  exact h
 have hGs:SliceAt w 3 (GloR w) q1 u.globals:=by
  obtain⟨p,c,e,_,_,h⟩:=hG.outC
  cases e
  exact h
 have hFs:SliceAt w 4 (FunR w) q2 u.funcs:=by
  obtain⟨p,c,e,_,_,h⟩:=hF.outC
  cases e
  exact h
 have HGs:=q7 hGs
 have HFs:=q7 hFs
 have HQ1:=q7 hq1
 have HQ2:=q7 hq2
 have HU:=q7 hu
 have HBd:=q7 (And.intro hG.bdC hF.bdC)
 clear hG hF hGs hFs hq1 hq2 hu
 go_enter Tryz.func32,Tryz.ntmps32
 go_wp2_with fail
 refine(K4 (R:=GloR w) glo_one u.globals q1 e1 _ (HGs.out.mono bZ (by omega) fun _ _ g=>g) HQ1.out HBd.out.1).mono ?_
 rintro e w1 ⟨p1,c1,rfl,⟨S1,hS1,hL1⟩,hb1⟩
 have hU1:w1.heap[w.heap.size]?=some (.cells #[.slice q1 u.globals.length e1,.slice q2 u.funcs.length e2] 25 (0,0)):=qd hb1 (by simp;omega) (qj (qj (qh rfl)))
 have hA1:w1.heap[w.heap.size+1]?=some (.cells #[.slice none 0 0,.slice none 0 0] 25 (0,0)):=qd hb1 (by simp) (qj (qh (by simp)))
 have hE1:w1.heap[w.heap.size+1+1]?=some (.cells #[.int .i64 0,.int .i64 0] 27 (0,0)):=qd hb1 (by simp) (qh (by simp))
 obtain⟨rb,rf⟩:=blk hU1
 have rz:=q9 hU1
 have HS1:=q7 hS1
 have HL1:=q7 (show ∀k,S1 k→w.heap.size+1+1+1≤k from fun k h=>by have:=hL1 k h;simpa using this)
 have HB1:=q7 (show Below w.heap.size w w1 from Below.trans bZ (hb1.mono (by simp;omega)))
 have HU1:=q7 hU1
 have HA1:=q7 hA1
 have HE1:=q7 hE1
 clear hS1 hL1 hb1 hU1 hA1 hE1
 go_wp2_with fail
 obtain⟨W1,hW1⟩:∃W1,W1=w1.setCell ⟨w.heap.size,0,none⟩ (.slice p1 u.globals.length c1):=⟨_,rfl⟩
 rw[←hW1]
 have hz0:W1.heap.size=w1.heap.size:=by rw[hW1];exact Go.Deep.nblk_setCell _ _ _
 have hU2:W1.heap[w.heap.size]?=some (.cells #[.slice p1 u.globals.length c1,.slice q2 u.funcs.length e2] 25 (0,0)):=by
  rw[hW1,qg HU1.out 0 _]
  rfl
 have hA2:W1.heap[w.heap.size+1]?=some (.cells #[.slice none 0 0,.slice none 0 0] 25 (0,0)):=by
  rw[hW1,Go.Deep.blk_setCell_other _ _ _ _ (by show w.heap.size+1≠w.heap.size;omega)]
  exact HA1.out
 have hE2:W1.heap[w.heap.size+1+1]?=some (.cells #[.int .i64 0,.int .i64 0] 27 (0,0)):=by
  rw[hW1,Go.Deep.blk_setCell_other _ _ _ _ (by show w.heap.size+1+1≠w.heap.size;omega)]
  exact HE1.out
 have hb2:Below w.heap.size w W1:=by rw[hW1];exact HB1.out.setCell (Nat.le_refl _) _
 have hS2:SlO 68 3 (xN GloO (GloR w)) W1 (.slice p1 u.globals.length c1) (xR 0 u.globals) S1:=by
  refine(HS1.out.sl.loc (w':=W1) (Xz _) (fun k hk=>?_) (by omega)).flag0
  rw[hW1]
  exact Go.Deep.blk_setCell_other _ _ _ _ (by have:=HL1.out k hk;show k≠w.heap.size;omega)
 have HU2:=q7 hU2
 have HA2:=q7 hA2
 have HE2:=q7 hE2
 have HB2:=q7 hb2
 have HS2:=q7 hS2
 have hz1:w.heap.size+1+1+1≤W1.heap.size:=q9 hE2
 clear hU2 hA2 hE2 hb2 hS2 hW1 HS1 HB1 HU1 HA1 HE1 rb rf rz
 go_loopg [17] u.globals.length (fun q s17 wr=>∃(k:Nat) (S:Blks),k≤u.globals.length∧q=u.globals.length - k∧s17 = .int .i64 k∧SlO 68 3 (xN GloO (GloR w)) wr (.slice p1 u.globals.length c1) (xR k u.globals) S∧(∀g,S g→w.heap.size+1+1+1≤g)∧Below (w.heap.size+1+1+1) W1 wr)
 case atStart=>exact⟨0,S1,by omega,rfl,rfl,HS2.out,HL1.out,Below.refl _ _⟩
 case round=>
  obtain⟨wo,hwo⟩:∃wo,wo=wr:=⟨_,rfl⟩
  subst hwo
  obtain⟨k,S,hk,rfl,rfl,hO,hL,hb⟩:=hrel
  have HO:=q7 hO
  have HL:=q7 hL
  have HB:=q7 hb
  have hsz:=hb.size
  have HBw:Hid (Below w.heap.size w wo):=q7 (HB2.out.trans (hb.mono (by omega)))
  have hUr:wo.heap[w.heap.size]?=some (.cells #[.slice p1 u.globals.length c1,.slice q2 u.funcs.length e2] 25 (0,0)):=(hb.block _ (by omega)).trans HU2.out
  have HUr:=q7 hUr
  obtain⟨ub,uf⟩:=blk hUr
  have uz:=q9 hUr
  clear hO hL hb hUr
  by_cases hlt:k<u.globals.length
  ·have hlt':k<(xR k u.globals).length:=by rw[je];exact hlt
   obtain⟨g,cc,cs,T,hv,hg,hSg,hcl,hx,hTg,hTS,hce,hfz,⟨cur,hau⟩,put⟩:=HO.out.focus (Qw zC _) (by omega) hlt'
   rw[jl hlt']at hx
   unfold xN at hx
   rw[if_neg (by simp)]at hx
   obtain⟨v1,rfl,b3,b4,b5⟩:=(show GloR w cs u.globals[k]from hx)
   obtain⟨qi,di,rfl,a1,_,z1⟩:=b5.outC
   have hp:p1=some ⟨g,0,none⟩:=by injection hv
   subst hp
   have c0:=hce 0 (by omega)
   have c1':=hce 1 (by omega)
   have c2':=hce 2 (by omega)
   simp only[List.getElem?_cons_zero,List.getElem?_cons_succ,Nat.add_zero]at c0 c1' c2'
   have HR:=q7 (And.intro b3 (And.intro b4 (And.intro a1 (And.intro b5.bdC z1))))
   have haG:=q7 put
   have HT:=q7 (And.intro hTg hTS)
   have hbZ:=q7 hau
   have HCe:=q7 hce
   have HFz:=q7 hfz
   have hgl:w.heap.size+1+1+1≤g:=HL.out g hSg
   clear hv hx b3 b4 b5 a1 z1 put hTg hTS hau hcl hce hSg
   go_wp2_with fail
   obtain⟨w3,hw3⟩:∃w3,w3=wo.alloc (.cells #[.string u.globals[k].name,.int .i64 u.globals[k].size,.slice qi u.globals[k].init.length di] 68):=⟨_,rfl⟩
   rw[←hw3]
   have hz4:w3.heap.size=wo.heap.size+1:=by rw[hw3];simp
   have hb4:Below wo.heap.size wo w3:=by rw[hw3];exact bZ
   have hX4:w3.heap[w.heap.size]?=some (.cells #[.slice (some ⟨g,0,none⟩) u.globals.length c1,.slice q2 u.funcs.length e2] 25 (0,0)):=(hb4.block _ (q9 HUr.out)).trans HUr.out
   have hY4:w3.heap[wo.heap.size]?=some (.cells #[.string u.globals[k].name,.int .i64 u.globals[k].size,.slice qi u.globals[k].init.length di] 68 (0,0)):=by rw[hw3];exact qh rfl
   have HB4:=q7 hb4
   clear hw3 hb4 c0 c1' c2' hfz ub uf uz
   obtain⟨Sp,hSp⟩:∃Sp:World→Prop,Sp=fun w'=>w'.heap[w.heap.size]?=some (.cells #[.slice (some ⟨g,0,none⟩) u.globals.length c1,.slice q2 u.funcs.length e2] 25 (0,0))∧w'.heap[wo.heap.size]?=some (.cells #[.string u.globals[k].name,.int .i64 u.globals[k].size,.slice qi u.globals[k].init.length di] 68 (0,0)):=⟨_,rfl⟩
   have ha6:∀w',Sp w'→w'.cell? ⟨w.heap.size,0,none⟩=some (.slice (some ⟨g,0,none⟩) u.globals.length c1)∧w'.cell? ⟨wo.heap.size,2,none⟩=some (.slice qi u.globals[k].init.length di)∧w.heap.size<w'.heap.size∧wo.heap.size<w'.heap.size:=fun w' h=>by
    rw[hSp]at h
    exact⟨(blk h.1).1 0,(blk h.2).1 2,q9 h.1,q9 h.2⟩
   have hS4:Sp w3.drew:=by rw[hSp];exact⟨hX4,hY4⟩
   refine qm (S:=Sp) (by kernel_rfl) 8 ?_
   refine tkZ 0 22 (.pointer (some ⟨w.heap.size,0,none⟩)) rfl rfl hS4 (fun w' h=>?_) ?_
   ·obtain⟨h1,h2,h3,h4⟩:=ha6 w' h
    skip
    go_simp
   refine tkZ 1 23 (.slice (some ⟨g,0,none⟩) u.globals.length c1) rfl rfl hS4 (fun w' h=>?_) ?_
   ·obtain⟨h1,h2,h3,h4⟩:=ha6 w' h
    skip
    go_simp
   refine tkZ 2 24 (.int .i64 k) rfl rfl hS4 (fun w' h=>?_) ?_
   ·obtain⟨h1,h2,h3,h4⟩:=ha6 w' h
    skip
    go_simp
   refine tkZ 3 25 (.pointer (some ⟨wo.heap.size,2,none⟩)) rfl rfl hS4 (fun w' h=>?_) ?_
   ·obtain⟨h1,h2,h3,h4⟩:=ha6 w' h
    skip
    go_simp
   refine tkZ 4 26 (.slice qi u.globals[k].init.length di) rfl rfl hS4 (fun w' h=>?_) ?_
   ·obtain⟨h1,h2,h3,h4⟩:=ha6 w' h
    skip
    go_simp
   refine qk (i:=5) (by kernel_rfl) (qt 27 rfl rfl rfl (by go_simp) (vB u.globals[k].init qi di w3.drew (HR.out.2.2.2.2.mono ((HBw.out.trans (HB4.out.mono (by omega))).drew) (by omega) fun _ _ g=>g) HR.out.2.2.1 HR.out.2.2.2.1) ?_)
   rintro e w5 ⟨pe,me,rfl,⟨Se,hSe,hLe⟩,hb5⟩
   have hb5:Below w3.heap.size w3 w5:=(Below.refl _ w3).drew.trans hb5
   have hLe:∀k,Se k→w3.heap.size≤k:=hLe
   have haT:Sp w5:=by
    rw[hSp]
    exact⟨(hb5.block _ (q9 hX4)).trans hX4,(hb5.block _ (q9 hY4)).trans hY4⟩
   refine⟨_,rfl,haT,?_⟩
   have hz5:=hb5.size
   have HSe:=q7 hSe
   have HLe:=q7 hLe
   have HB5:=q7 (HB4.out.trans (hb5.mono (by omega)))
   clear hSe hLe hb5
   refine qk (i:=6) (by kernel_rfl) (qn 28 (.pointer (some ⟨g,k*3,none⟩)) w5 rfl rfl rfl (by go_simp) haT ?_)
   refine qk (i:=7) (by kernel_rfl) (qn 29 (.pointer (some ⟨g,k*3+2,none⟩)) w5 rfl rfl rfl (by go_simp) haT ?_)
   have r1:w5.cell? ⟨g,k*3+2,none⟩=some (.slice qi u.globals[k].init.length di):=(World.cell?_of_block (a:=⟨g,k*3+2,none⟩) (HB5.out.block g hg)).trans (HCe.out 2 (by omega))
   have r2:w5.frozen? ⟨g,k*3+2,none⟩=false:=(World.frozen?_of_block (a:=⟨g,k*3+2,none⟩) (HB5.out.block g hg)).trans (HFz.out _)
   have r3:g<w5.heap.size:=by omega
   refine qk (i:=8) (by kernel_rfl) (qz (w5.setCell ⟨g,k*3+2,none⟩ (.slice pe u.globals[k].init.length me)) rfl rfl rfl (by go_simp) (fun h=>absurd rfl h) (qB (by kernel_rfl) ?_ _))
   show Exit.inBlock 1 _ Exit.normal _ _
   have hput:=haG.out (w5.setCell ⟨g,k*3+2,none⟩ (.slice pe u.globals[k].init.length me)) [.string u.globals[k].name,.int .i64 u.globals[k].size,.slice pe u.globals[k].init.length me] (true,u.globals[k]) Se
    (RowPut.set (RowPut.same hbZ.out (HB5.out.block g hg) HCe.out) rfl (j:=2) (by omega) _) rfl (fun u hu=>by
     simp only[List.mem_cons,List.not_mem_nil,or_false]at hu
     rcases hu with rfl|rfl|rfl<;>rfl) (by rw[Go.Deep.nblk_setCell];omega) (fun i h1 h2 h3=>(Go.Deep.blk_setCell_other w5 ⟨g,k*3+2,none⟩ _ i h3).trans (HB5.out.block i (HO.out.inb i h1)))
    (by
     have hL9:∀i,Se i→i≠g:=fun i hi=>by have:=HLe.out i hi;omega
     exact⟨_,rfl,HR.out.1,HR.out.2.1,HSe.out.loc qT (fun _ h=>h) (fun i hi=>Go.Deep.blk_setCell_other w5 ⟨g,k*3+2,none⟩ _ i (hL9 i hi)) (by rw[Go.Deep.nblk_setCell];omega)⟩)
    (fun i hi=>⟨.inr (by have:=HLe.out i hi;omega),by rw[Go.Deep.nblk_setCell];exact HSe.out.sl.inb i hi⟩)
   rw[kw hlt]at hput
   have hrel:SlO 68 3 (xN GloO (GloR w)) (w5.setCell ⟨g,k*3+2,none⟩ (.slice pe u.globals[k].init.length me)) (.slice (some ⟨g,0,none⟩) u.globals.length c1) (xR (k+1) u.globals) (fun i=>S i∨Se i)∧(∀i,S i∨Se i→w.heap.size+1+1+1≤i)∧Below (w.heap.size+1+1+1) W1 (w5.setCell ⟨g,k*3+2,none⟩ (.slice pe u.globals[k].init.length me)):=by
    refine⟨hput,fun i hi=>?_,?_⟩
    ·rcases hi with h|h
     ·exact HL.out i h
     have:=HLe.out i h;omega
    exact(HB.out.trans (HB5.out.mono (by omega))).setCell hgl _
   have ha7:=q7 hrel
   clear hrel hput r1 r2 haT hS4 hX4 hY4
   go_wp2_with fail
   go_roundg (u.globals.length - (k+1))
   case measure=>omega
   case rel=>exact⟨k+1,_,by omega,rfl,by go_num,ha7.out.1,ha7.out.2.1,ha7.out.2.2⟩
  obtain rfl:k=u.globals.length:=by omega
  have HGo:=q7 HO.out.flagN
  have HAr:Hid (wo.heap[w.heap.size+1]?=some (.cells #[.slice none 0 0,.slice none 0 0] 25 (0,0))):=q7 ((HB.out.block _ (by omega)).trans HA2.out)
  have HEr:Hid (wo.heap[w.heap.size+1+1]?=some (.cells #[.int .i64 0,.int .i64 0] 27 (0,0))):=q7 ((HB.out.block _ (by omega)).trans HE2.out)
  have hfW:=HO.out.inb
  have HSG:=q7 (And.intro hfW HL.out)
  obtain⟨W3,hW3⟩:∃W3,W3=wo:=⟨_,rfl⟩
  subst hW3
  clear HO HS2 HA2 HE2 HU2 hfW HL1 HB HL
  go_wp2_with fail
  refine(K3 (R:=FunR w) fun_one u.funcs q2 e2 _ (HFs.out.mono HBw.out (by omega) fun _ _ g=>g) HQ2.out HBd.out.2).mono ?_
  rintro e w5 ⟨p2,c2,rfl,⟨S5,hS5,hL5⟩,hb5⟩
  have hU5:w5.heap[w.heap.size]?=some (.cells #[.slice p1 u.globals.length c1,.slice q2 u.funcs.length e2] 25 (0,0)):=(hb5.block _ uz).trans HUr.out
  clear ub uf uz
  obtain⟨ub,uf⟩:=blk hU5
  have uz:=q9 hU5
  have HS5:=q7 hS5
  have HL5:=q7 (show ∀k,S5 k→W3.heap.size≤k from hL5)
  have HB5:=q7 hb5
  have HU5:=q7 hU5
  clear hS5 hL5 hb5 hU5
  go_wp2_with fail
  obtain⟨W5,hW5⟩:∃W5,W5=w5.setCell ⟨w.heap.size,1,none⟩ (.slice p2 u.funcs.length c2):=⟨_,rfl⟩
  rw[←hW5]
  obtain⟨N,hN⟩:∃N,N=W3.heap.size:=⟨_,rfl⟩
  have hz5:=HB5.out.size
  have hzW:W5.heap.size=w5.heap.size:=by rw[hW5];exact Go.Deep.nblk_setCell _ _ _
  have hU6:W5.heap[w.heap.size]?=some (.cells #[.slice p1 u.globals.length c1,.slice p2 u.funcs.length c2] 25 (0,0)):=by
   rw[hW5,qg HU5.out 1 _]
   rfl
  have oth:∀i,i≠w.heap.size→W5.heap[i]?=w5.heap[i]?:=fun i hi=>by rw[hW5];exact Go.Deep.blk_setCell_other _ _ _ _ hi
  have hA6:W5.heap[w.heap.size+1]?=some (.cells #[.slice none 0 0,.slice none 0 0] 25 (0,0)):=(oth _ (by omega)).trans ((HB5.out.block _ (q9 HAr.out)).trans HAr.out)
  have hE6:W5.heap[w.heap.size+1+1]?=some (.cells #[.int .i64 0,.int .i64 0] 27 (0,0)):=(oth _ (by omega)).trans ((HB5.out.block _ (q9 HEr.out)).trans HEr.out)
  have hG6:SlO 68 3 GloO W5 (.slice p1 u.globals.length c1) u.globals S:=HGo.out.loc zC (fun i hi=>by
   have h1:=HSG.out.1 i hi
   have h2:=HSG.out.2 i hi
   exact(oth i (by omega)).trans (HB5.out.block i h1)) (by omega)
  have hF6:SlO 37 4 (xN FunO (FunR w)) W5 (.slice p2 u.funcs.length c2) (kZ doT 0 u.funcs) S5:=by
   refine(HS5.out.sl.loc (w':=W5) (Xz _) (fun i hi=>oth i ?_) (by omega)).flagH0
   have:=HL5.out i hi
   have:=q9 HAr.out
   omega
  have hb6:Below w.heap.size w W5:=by rw[hW5];exact(HBw.out.trans (HB5.out.mono (by omega))).setCell (Nat.le_refl _) _
  have HU6:=q7 hU6
  have HA6:=q7 hA6
  have HE6:=q7 hE6
  have HG6:=q7 hG6
  have HF6:=q7 hF6
  have HB6:=q7 hb6
  have hNl:w.heap.size+1+1+1≤N:=by rw[hN];have:=q9 HEr.out;omega
  have hNW:N≤W5.heap.size:=by omega
  have HL6:=q7 (show ∀i,S5 i→N≤i from fun i hi=>by have:=HL5.out i hi;omega)
  have HSN:=q7 (show ∀i,S i→i<N from fun i hi=>by have:=HSG.out.1 i hi;omega)
  clear hU6 hA6 hE6 hG6 hF6 hb6 hW5 oth HS5 HL5 HB5 HU5 HGo HAr HEr ub uf uz hz5 hzW hN HUr HBw
  go_loopg [38] u.funcs.length (fun q s38 wr=>∃(k:Nat) (S:Blks),k≤u.funcs.length∧q=u.funcs.length - k∧s38 = .int .i64 k∧SlO 37 4 (xN FunO (FunR w)) wr (.slice p2 u.funcs.length c2) (kZ doT k u.funcs) S∧(∀g,S g→N≤g)∧Below N W5 wr)
  case atStart=>exact⟨0,S5,by omega,rfl,rfl,HF6.out,HL6.out,Below.refl _ _⟩
  case round=>
   obtain⟨wo,hwo⟩:∃wo,wo=wr:=⟨_,rfl⟩
   subst hwo
   obtain⟨k,Sf,hk,rfl,rfl,hO,hL,hb⟩:=hrel
   have HO:=q7 hO
   have HL:=q7 hL
   have HB:=q7 hb
   have hsz:=hb.size
   have HBw:Hid (Below w.heap.size w wo):=q7 (HB6.out.trans (hb.mono (by omega)))
   have hUr:wo.heap[w.heap.size]?=some (.cells #[.slice p1 u.globals.length c1,.slice p2 u.funcs.length c2] 25 (0,0)):=(hb.block _ (by omega)).trans HU6.out
   have HUr:=q7 hUr
   obtain⟨ub,uf⟩:=blk hUr
   have uz:=q9 hUr
   clear hO hL hb hUr
   by_cases hlt:k<u.funcs.length
   rotate_left
   ·obtain rfl:k=u.funcs.length:=by omega
    have hFn:=HO.out.flagHN
    have hnJ:=HO.out.inb
    have hAr:wo.heap[w.heap.size+1]?=some (.cells #[.slice none 0 0,.slice none 0 0] 25 (0,0)):=(HB.out.block _ (by omega)).trans HA6.out
    have hEr:wo.heap[w.heap.size+1+1]?=some (.cells #[.int .i64 0,.int .i64 0] 27 (0,0)):=(HB.out.block _ (by omega)).trans HE6.out
    have hGr:SlO 68 3 GloO wo (.slice p1 u.globals.length c1) u.globals S:=HG6.out.loc zC (fun i hi=>HB.out.block i (HSN.out i hi)) (by omega)
    have ub0:=ub 0
    have ub1:=ub 1
    obtain⟨ab,af⟩:=blk hAr
    have ab0:=ab 0
    have ab1:=ab 1
    have az:=q9 hAr
    obtain⟨eb,ef⟩:=blk hEr
    have eb0:=eb 0
    have eb1:=eb 1
    have ez:=q9 hEr
    simp only[List.getElem?_toArray,List.getElem?_cons_zero,List.getElem?_cons_succ]at ub0 ub1 ab0 ab1 eb0 eb1
    have HAr:=q7 hAr
    have HEr:=q7 hEr
    have HGr:=q7 hGr
    have HFn:=q7 (And.intro hFn hnJ)
    clear hAr hEr hGr hFn hnJ ub ab eb
    go_wp2_with fail
    obtain⟨WF,hWF⟩:∃WF,WF=(((wo.setCell ⟨w.heap.size+1,0,none⟩ (.slice p1 u.globals.length c1)).setCell ⟨w.heap.size+1,1,none⟩ (.slice p2 u.funcs.length c2)).setCell ⟨w.heap.size+1+1,0,none⟩ (.int .i64 0)).setCell ⟨w.heap.size+1+1,1,none⟩ (.int .i64 0):=⟨_,rfl⟩
    rw[←hWF]
    have hK:Kept (fun i=>i=w.heap.size+1∨i=w.heap.size+1+1) wo WF:=by
     rw[hWF]
     have h0:Kept (fun i=>i=w.heap.size+1∨i=w.heap.size+1+1) wo wo:=Kept.refl _ _
     have h1:=h0.setCell (p:=⟨w.heap.size+1,0,none⟩) (.inl rfl) (.slice p1 u.globals.length c1)
     have h2:=h1.setCell (p:=⟨w.heap.size+1,1,none⟩) (.inl rfl) (.slice p2 u.funcs.length c2)
     have h3:=h2.setCell (p:=⟨w.heap.size+1+1,0,none⟩) (.inr rfl) (.int .i64 0)
     exact h3.setCell (p:=⟨w.heap.size+1+1,1,none⟩) (.inr rfl) (.int .i64 0)
    have hRA:WF.heap[w.heap.size+1]?=some (.cells #[.slice p1 u.globals.length c1,.slice p2 u.funcs.length c2] 25 (0,0)):=by
     rw[hWF,Go.Deep.blk_setCell_other _ ⟨w.heap.size+1+1,1,none⟩ _ _ (by show w.heap.size+1≠w.heap.size+1+1;omega),Go.Deep.blk_setCell_other _ ⟨w.heap.size+1+1,0,none⟩ _ _ (by show w.heap.size+1≠w.heap.size+1+1;omega),qg (qg HAr.out 0 _) 1 _]
     rfl
    have hRE:WF.heap[w.heap.size+1+1]?=some (.cells #[.int .i64 0,.int .i64 0] 27 (0,0)):=by
     have h0:((wo.setCell ⟨w.heap.size+1,0,none⟩ (.slice p1 u.globals.length c1)).setCell ⟨w.heap.size+1,1,none⟩ (.slice p2 u.funcs.length c2)).heap[w.heap.size+1+1]?=some (.cells #[.int .i64 0,.int .i64 0] 27 (0,0)):=by
      rw[Go.Deep.blk_setCell_other _ ⟨w.heap.size+1,1,none⟩ _ _ (by show w.heap.size+1+1≠w.heap.size+1;omega),Go.Deep.blk_setCell_other _ ⟨w.heap.size+1,0,none⟩ _ _ (by show w.heap.size+1+1≠w.heap.size+1;omega)]
      exact HEr.out
     rw[hWF,qg (qg h0 0 _) 1 _]
     rfl
    clear hWF
    obtain⟨ra,_⟩:=blk hRA
    obtain⟨re,_⟩:=blk hRE
    have ra0:=ra 0
    have ra1:=ra 1
    have re0:=re 0
    have re1:=re 1
    simp only[List.getElem?_toArray,List.getElem?_cons_zero,List.getElem?_cons_succ]at ra0 ra1 re0 re1
    refine bodyPost_ret (v:=.tuple #[.agg #[.slice p1 u.globals.length c1,.slice p2 u.funcs.length c2],.agg #[.int .i64 0,.int .i64 0]]) ?_ rfl ⟨⟨p1,c1,p2,c2,rfl,fun i=>S i∨Sf i,⟨_,_,S,Sf,rfl,⟨?_,HBd.out.1⟩,⟨?_,?_⟩,fun i h1 h2=>?_,fun _ h=>.inl h,fun _ h=>.inr h⟩,fun i hi=>?_⟩,?_⟩
    ·simp[results,Tryz.results32,go_sem,ra0,ra1,re0,re1]
    ·exact HGr.out.kept zC hK (fun i h1 h2=>by have:=HSG.out.2 i h2;omega)
    ·exact HFn.out.1.kept zj hK (fun i h1 h2=>by have:=HL.out i h2;omega)
    ·show(u.funcs.map doT).length*56≤reachBytes
     rw[List.length_map]
     exact HBd.out.2
    ·have:=HSN.out i h1
     have:=HL.out i h2
     omega
    ·rcases hi with h|h
     ·have:=HSG.out.2 i h;omega
     have:=HL.out i h;omega
    exact HBw.out.trans (hK.below (by have:=HBw.out.size;omega) (fun i e=>by omega))
   have hlt':k<(kZ doT k u.funcs).length:=by rw[jf];exact hlt
   obtain⟨g,cc,cs,T,hv,hg,hSg,hcl,hx,hTg,hTS,hce,hfz,⟨cur,hau⟩,put⟩:=HO.out.focus (Qw zj _) (by omega) hlt'
   rw[kF hlt',if_neg (by omega)]at hx
   unfold xN at hx
   rw[if_neg (by simp)]at hx
   obtain⟨v1,rfl,b3,b4,b5,b6⟩:=(show FunR w cs u.funcs[k]from hx)
   obtain⟨qf,ef,rfl,a1,_,z1⟩:=b6.outC
   have hp:p2=some ⟨g,0,none⟩:=by injection hv
   subst hp
   have c0:=hce 0 (by omega)
   have c1':=hce 1 (by omega)
   have c2':=hce 2 (by omega)
   have c3:=hce 3 (by omega)
   simp only[List.getElem?_cons_zero,List.getElem?_cons_succ,Nat.add_zero]at c0 c1' c2' c3
   have HR:=q7 (And.intro b3 (And.intro b4 (And.intro b5 b6)))
   have haG:=q7 put
   have HT:=q7 (And.intro hTg hTS)
   have hbZ:=q7 hau
   have HCe:=q7 hce
   have HFz:=q7 hfz
   have hgl:N≤g:=HL.out g hSg
   have hC:=HU.out.funC hlt
   have hCd:=hC.done
   have HC:=q7 hC
   have HCd:=q7 hCd
   clear hv hx b3 b4 b5 b6 a1 z1 put hTg hTS hau hcl hce hSg hC hCd
   go_wp2_with fail
   have hb3:Below wo.heap.size wo (wo.alloc (.cells #[.string u.funcs[k].name,.int .i64 u.funcs[k].params,.int .i64 u.funcs[k].regs,.slice qf u.funcs[k].blocks.length ef] 37)):=by exact bZ
   have hbx:Below w.heap.size w (wo.alloc (.cells #[.string u.funcs[k].name,.int .i64 u.funcs[k].params,.int .i64 u.funcs[k].regs,.slice qf u.funcs[k].blocks.length ef] 37)):=HBw.out.trans (hb3.mono (by omega))
   refine(ZX u.funcs[k] qf ef _ HR.out.1 HR.out.2.1 HR.out.2.2.1 (SlF.mono HR.out.2.2.2 hbx (by omega) fun _ _ h=>h.below hbx)).mono ?_
   rintro e w6 ⟨⟨pc,cc2,rfl,Sc,hFc,hLc⟩,hb6⟩
   have hLc:∀i,Sc i→wo.heap.size+1≤i:=fun i h=>by have:=hLc i h;simpa using this
   have hX6:w6.heap[wo.heap.size]?=some (.cells #[.string u.funcs[k].name,.int .i64 u.funcs[k].params,.int .i64 u.funcs[k].regs,.slice qf u.funcs[k].blocks.length ef] 37 (0,0)):=qd hb6 (by simp) (qh rfl)
   have hdZ:Below wo.heap.size wo w6:=hb3.trans (hb6.mono (by simp))
   have HFc:=q7 hFc
   have HLc:=q7 hLc
   have HX6:=q7 hX6
   have hjP:=q7 hdZ
   have hz6:=hdZ.size
   have hx6:=q9 hX6
   clear hFc hLc hX6 hdZ hb6 hb3 hbx c0 c1' c2' c3 hfz ub uf uz
   go_wp2_with fail
   refine(doOf_any u.funcs[k] HC.out pc cc2 w6 Sc HFc.out).mono ?_
   rintro e w7 ⟨pd,cd,Sd,rfl,hFd,hSd,hK7⟩
   have hX7:w7.heap[wo.heap.size]?=some (.cells #[.string u.funcs[k].name,.int .i64 u.funcs[k].params,.int .i64 u.funcs[k].regs,.slice qf u.funcs[k].blocks.length ef] 37 (0,0)):=(hK7.block _ hx6 (fun h=>by have:=HLc.out _ h;omega)).trans HX6.out
   have hz7:=hK7.size
   have hg7:w7.heap[g]?=wo.heap[g]?:=(hK7.block _ (by omega) (fun h=>by have:=HLc.out _ h;omega)).trans (hjP.out.block _ hg)
   have hB7:Below wo.heap.size wo w7:=hjP.out.trans (hK7.below (by omega) (fun i h=>by have:=HLc.out i h;omega))
   have hnK:∀i,Sd i→wo.heap.size+1≤i:=fun i h=>by
    rcases hSd i h with a|a
    ·exact HLc.out i a
    omega
   obtain⟨xb,xf⟩:=blk hX7
   have xb0:=xb 0
   have xb1:=xb 1
   have xb2:=xb 2
   have xb3:=xb 3
   simp only[List.getElem?_toArray,List.getElem?_cons_zero,List.getElem?_cons_succ]at xb0 xb1 xb2 xb3
   have xz:=q9 hX7
   have HFd:=q7 hFd
   have HSd:=q7 hnK
   have HX7:=q7 hX7
   have HG7:=q7 hg7
   have HB7:=q7 hB7
   clear hFd hSd hnK hX7 hg7 hB7 hK7 xb HFc HX6 hjP HLc
   go_wp2_with fail
   obtain⟨W7,hW7⟩:∃W7,W7=(((w7.setCell ⟨wo.heap.size,0,none⟩ (.string u.funcs[k].name)).setCell ⟨wo.heap.size,1,none⟩ (.int .i64 u.funcs[k].params)).setCell ⟨wo.heap.size,2,none⟩ (.int .i64 (doT u.funcs[k]).regs)).setCell ⟨wo.heap.size,3,none⟩ (.slice pd (doT u.funcs[k]).blocks.length cd):=⟨_,rfl⟩
   rw[←hW7]
   have hX8:W7.heap[wo.heap.size]?=some (.cells #[.string u.funcs[k].name,.int .i64 u.funcs[k].params,.int .i64 (doT u.funcs[k]).regs,.slice pd (doT u.funcs[k]).blocks.length cd] 37 (0,0)):=by
    rw[hW7,qg (qg (qg (qg HX7.out 0 _) 1 _) 2 _) 3 _]
    rfl
   have hK8:Kept (fun i=>i=wo.heap.size) w7 W7:=by
    rw[hW7]
    have h0:Kept (fun i=>i=wo.heap.size) w7 w7:=Kept.refl _ _
    have h1:=h0.setCell (p:=⟨wo.heap.size,0,none⟩) rfl (.string u.funcs[k].name)
    have h2:=h1.setCell (p:=⟨wo.heap.size,1,none⟩) rfl (.int .i64 u.funcs[k].params)
    have h3:=h2.setCell (p:=⟨wo.heap.size,2,none⟩) rfl (.int .i64 (doT u.funcs[k]).regs)
    exact h3.setCell (p:=⟨wo.heap.size,3,none⟩) rfl (.slice pd (doT u.funcs[k]).blocks.length cd)
   have hhr:=zj _ W7 _ _ _ HFd.out (fun i hi=>hK8.block i (by
    obtain⟨v,_,_,_,_,hh⟩:=HFd.out
    exact hh.sl.inb i hi) (fun e=>by have:=HSd.out i hi;omega)) hK8.size
   have hjQ:∀i,Sd i→i<W7.heap.size:=fun i hi=>by
    obtain⟨v,_,_,_,_,hh⟩:=hhr
    exact hh.sl.inb i hi
   have hB8:Below wo.heap.size wo W7:=HB7.out.trans (hK8.below (by omega) (fun i e=>by omega))
   have hz8:=hK8.size
   have hg8:W7.heap[g]?=wo.heap[g]?:=(hK8.block _ (by omega) (by omega)).trans HG7.out
   have hhd:=ZR u.funcs[k]
   have hcall:=large_no (doT u.funcs[k]) pd cd W7 HCd.out.n40 HCd.out.many HCd.out.reg.2 (by
    obtain⟨v,hv,_,_,_,hh⟩:=hhr
    have hv4:v = .slice pd (doT u.funcs[k]).blocks.length cd:=by
     have h:=hv.symm
     simp at h
     exact h.2.2
    subst hv4
    obtain⟨p,c,e,_,_,h⟩:=(hh.read (R':=BlkR W7) qE (by omega) fun _ _ _ h=>h.read).outC
    cases e
    exact h)
   rw[hhd.1,hhd.2]at hcall
   refine hcall.mono ?_
   rintro e w8 ⟨rfl,hb8⟩
   have hX9:=(hb8.block _ (q9 hX8)).trans hX8
   have hg9:w8.heap[g]?=wo.heap[g]?:=(hb8.block _ (by omega)).trans hg8
   have hnM:=zj _ w8 _ _ _ hhr (fun i hi=>hb8.block i (hjQ i hi)) hb8.size
   have hB9:Below wo.heap.size wo w8:=hB8.trans (hb8.mono (by omega))
   have hU9:w8.heap[w.heap.size]?=some (.cells #[.slice p1 u.globals.length c1,.slice (some ⟨g,0,none⟩) u.funcs.length c2] 25 (0,0)):=(hB9.block _ (q9 HUr.out)).trans HUr.out
   have hz9:=hB9.size
   obtain⟨xb,xf'⟩:=blk hX9
   have yb0:=xb 0
   have yb1:=xb 1
   have yb2:=xb 2
   have yb3:=xb 3
   obtain⟨ub,_⟩:=blk hU9
   have ub1:=ub 1
   simp only[List.getElem?_toArray,List.getElem?_cons_zero,List.getElem?_cons_succ]at yb0 yb1 yb2 yb3 ub1
   have g0:w8.cell? ⟨g,k*4,none⟩=some (.string u.funcs[k].name):=(World.cell?_of_block (a:=⟨g,k*4,none⟩) hg9).trans (HCe.out 0 (by omega))
   have g1:w8.cell? ⟨g,k*4+1,none⟩=some (.int .i64 u.funcs[k].params):=(World.cell?_of_block (a:=⟨g,k*4+1,none⟩) hg9).trans (HCe.out 1 (by omega))
   have g2:w8.cell? ⟨g,k*4+2,none⟩=some (.int .i64 u.funcs[k].regs):=(World.cell?_of_block (a:=⟨g,k*4+2,none⟩) hg9).trans (HCe.out 2 (by omega))
   have g3:w8.cell? ⟨g,k*4+3,none⟩=some (.slice qf u.funcs[k].blocks.length ef):=(World.cell?_of_block (a:=⟨g,k*4+3,none⟩) hg9).trans (HCe.out 3 (by omega))
   have gf:∀j,w8.frozen? ⟨g,j,none⟩=false:=fun j=>(World.frozen?_of_block (a:=⟨g,j,none⟩) hg9).trans (HFz.out _)
   have gz:g<w8.heap.size:=by omega
   have xz8:=q9 hX9
   have uz8:=q9 hU9
   have hrH:=q7 hnM
   have hnN:=q7 (show ∀i,Sd i→i<w8.heap.size from fun i hi=>Nat.lt_of_lt_of_le (hjQ i hi) hb8.size)
   have HG9:=q7 hg9
   have HB9:=q7 hB9
   clear hW7 hX8 hK8 hhr hjQ hB8 hz8 hg8 hhd hcall hb8 hX9 hg9 hnM hB9 hU9 xb ub xb0 xb1 xb2 xb3 xf xz HFd HX7 HG7 HB7
   go_wp2_with fail
   obtain⟨W9,hW9⟩:∃W9,W9=Go.Proofs.YtecdphhdmjmmnaaGreatDoor.quad w8 g (k*4) (.string u.funcs[k].name) (.int .i64 u.funcs[k].params) (.int .i64 (doT u.funcs[k]).regs) (.slice pd (doT u.funcs[k]).blocks.length cd):=⟨_,rfl⟩
   have hWu:=hW9
   unfold Go.Proofs.YtecdphhdmjmmnaaGreatDoor.quad at hWu
   rw[←hWu]
   have hK9:Kept (fun i=>i=g) w8 W9:=by rw[hW9];exact QX ..
   have hrp:RowPut wo W9 37 g (k*4) 4 [.string u.funcs[k].name,.int .i64 u.funcs[k].params,.int .i64 (doT u.funcs[k]).regs,.slice pd (doT u.funcs[k]).blocks.length cd]:=by
    rw[hW9]
    exact(RowPut.same hbZ.out HG9.out HCe.out).quad rfl _ _ _ _
   have hj7:=hK9.size
   have hput:=haG.out W9 [.string u.funcs[k].name,.int .i64 u.funcs[k].params,.int .i64 (doT u.funcs[k]).regs,.slice pd (doT u.funcs[k]).blocks.length cd] (true,doT u.funcs[k]) Sd hrp rfl (fun u hu=>by
     simp only[List.mem_cons,List.not_mem_nil,or_false]at hu
     rcases hu with rfl|rfl|rfl|rfl<;>rfl) (by omega) (fun i h1 h2 h3=>(hK9.block i (by have:=HO.out.inb i h1;omega) h3).trans (HB9.out.block i (HO.out.inb i h1)))
    (show FunO W9 [.string u.funcs[k].name,.int .i64 u.funcs[k].params,.int .i64 (doT u.funcs[k]).regs,.slice pd (doT u.funcs[k]).blocks.length cd] (doT u.funcs[k]) Sd from zj _ _ _ _ _ hrH.out (fun i hi=>hK9.block i (hnN.out i hi) (fun e=>by have:=HSd.out i hi;omega)) hK9.size)
    (fun i hi=>⟨.inr (by have:=HSd.out i hi;omega),by have:=hnN.out i hi;omega⟩)
   rw[flagH_put hlt]at hput
   have hrel:(∀i,Sf i∨Sd i→N≤i)∧Below N W5 W9:=by
    refine⟨fun i hi=>?_,(HB.out.trans (HB9.out.mono (by omega))).trans (hK9.below (by omega) (fun i e=>by omega))⟩
    rcases hi with h|h
    ·exact HL.out i h
    have:=HSd.out i h;omega
   go_roundg (u.funcs.length - (k+1))
   case measure=>omega
   case rel=>exact⟨k+1,_,by omega,rfl,by go_num,hput,hrel.1,hrel.2⟩

theorem Vz (u:UniL) (gp fp:Option Addr) (gc fc:Nat) (w:World) (hgl:u.globals.length*48≤140737488351232) (hG:SlF w 3 48 (GloR w) (.slice gp u.globals.length gc) u.globals) (hfl:u.funcs.length*56≤140737488351232) (hF:SlF w 4 56 (FunR w) (.slice fp u.funcs.length fc) u.funcs) (hw0:Ways w) (h:(chk u).1=0) :
  Calls Tryz.prog 12 #[.agg #[.slice gp u.globals.length gc,.slice fp u.funcs.length fc]] w fun e w'=>(∃p1 c1 p2 c2,e = .returned (.tuple #[.agg #[.slice p1 u.globals.length c1,.slice p2 u.funcs.length c2],.agg #[.int .i64 0,.int .i64 0]])∧
   ∃S,UniO w' [.slice p1 u.globals.length c1,.slice p2 u.funcs.length c2] (xB u) S∧LoB w.heap.size S)∧Below w.heap.size w w':=by
 have hG':SliceAt w 3 (GloR w) gp u.globals:=by
  obtain⟨p,c,e,_,_,h⟩:=hG.outC
  cases e
  exact h
 have hF':SliceAt w 4 (FunR w) fp u.funcs:=by
  obtain⟨p,c,e,_,_,h⟩:=hF.outC
  cases e
  exact h
 have HGs:=q7 hG
 have HFs:=q7 hF
 have HG:=q7 hG'
 have HF:=q7 hF'
 have HW:=q7 hw0
 have HK:=q7 (ki h).2
 have hne:((chk u).1 == 0&&(chk u).2 == 0)=true:=by rw[(ki h).1];rfl
 have hq:∀w,(binOp .neq 27 (.agg #[.int .i64 (chk u).1,.int .i64 (chk u).2]) (.agg #[.int .i64 0,.int .i64 0])).run Tryz.prog w = .ok (.bool false) w:=fun w=>by rw[xE,hne];rfl
 clear hG hF hG' hF' hw0 h hne
 go_enter Tryz.func12,Tryz.ntmps12
 go_wp2_with fail
 refine(js u _ _ _ _ _ hgl (zS HG.out bZ) hfl (xI HF.out bZ) (HW.out.below bZ)).mono ?_
 rintro e w1 ⟨rfl,hb1⟩
 have HB1:Hid (Below w.heap.size w w1):=Below.trans bZ (hb1.mono (by simp;omega))
 have hU:=qd hb1 (k:=w.heap.size) (by simp;omega) (qj (qj (qr w _)))
 have hR:=qd hb1 (k:=w.heap.size+1) (by simp) (qj (qh (w:=w.alloc (.cells #[.slice gp u.globals.length gc,.slice fp u.funcs.length fc] 25)) (o:=.cells #[.slice none 0 0,.slice none 0 0] 25) (by simp)))
 have hR2:=qd hb1 (k:=w.heap.size+1+1) (by simp) (qh (w:=(w.alloc (.cells #[.slice gp u.globals.length gc,.slice fp u.funcs.length fc] 25)).alloc (.cells #[.slice none 0 0,.slice none 0 0] 25)) (o:=.cells #[.int .i64 0,.int .i64 0] 27) (by simp))
 have HR:=q7 hR
 have HR2:=q7 hR2
 obtain⟨hcu,hfu⟩:=blk hU
 have zu:=q9 hU
 have z1:=q9 hR
 have z2:=q9 hR2
 clear hb1 hR hR2 hU
 go_wp2_with fail
 obtain⟨w2,hw2⟩:∃w2,w2=w1.alloc (.cells #[.int .i64 (chk u).1,.int .i64 (chk u).2] 27):=⟨_,rfl⟩
 rw[←hw2]
 have hb2:Below w1.heap.size w1 w2:=by rw[hw2];exact bZ
 have HB2:=q7 hb2
 have haO:=q7 (HB1.out.trans (hb2.mono (by omega)))
 clear hw2 hb2
 have hgm:=SlF.mono HGs.out haO.out (by omega) fun _ _ h=>h.below haO.out
 have hfm:=SlF.mono HFs.out haO.out (by omega) fun _ _ h=>h.below haO.out
 refine(X5 u HK.out gp fp gc fc w2 hgm hfm).mono ?_
 rintro e w3 ⟨⟨p1,c1,p2,c2,rfl,S,hS,hL⟩,hb3⟩
 have hz2:=HB2.out.size
 have hR:=(hb3.block _ (by omega)).trans ((HB2.out.block _ z1).trans HR.out)
 have hR2:=(hb3.block _ (by omega)).trans ((HB2.out.block _ z2).trans HR2.out)
 obtain⟨ab,af⟩:=blk hR
 have ab0:=ab 0
 have ab1:=ab 1
 have az:=q9 hR
 obtain⟨eb,ef⟩:=blk hR2
 have eb0:=eb 0
 have eb1:=eb 1
 have ez:=q9 hR2
 simp only[List.getElem?_toArray,List.getElem?_cons_zero,List.getElem?_cons_succ]at ab0 ab1 eb0 eb1
 have HS:=q7 hS
 have HL:=q7 (show ∀i,S i→w2.heap.size≤i from hL)
 have HB3:=q7 (haO.out.trans (hb3.mono haO.out.size))
 have HAr:=q7 hR
 have HEr:=q7 hR2
 clear hS hL hb3 hgm hfm hR hR2 ab eb hcu hfu zu
 go_wp2_with fail
 obtain⟨WF,hWF⟩:∃WF,WF=(((w3.setCell ⟨w.heap.size+1,0,none⟩ (.slice p1 u.globals.length c1)).setCell ⟨w.heap.size+1,1,none⟩ (.slice p2 u.funcs.length c2)).setCell ⟨w.heap.size+1+1,0,none⟩ (.int .i64 0)).setCell ⟨w.heap.size+1+1,1,none⟩ (.int .i64 0):=⟨_,rfl⟩
 rw[←hWF]
 have hK:Kept (fun i=>i=w.heap.size+1∨i=w.heap.size+1+1) w3 WF:=by
  rw[hWF]
  have h0:Kept (fun i=>i=w.heap.size+1∨i=w.heap.size+1+1) w3 w3:=Kept.refl _ _
  have h1:=h0.setCell (p:=⟨w.heap.size+1,0,none⟩) (.inl rfl) (.slice p1 u.globals.length c1)
  have h2:=h1.setCell (p:=⟨w.heap.size+1,1,none⟩) (.inl rfl) (.slice p2 u.funcs.length c2)
  have h3:=h2.setCell (p:=⟨w.heap.size+1+1,0,none⟩) (.inr rfl) (.int .i64 0)
  exact h3.setCell (p:=⟨w.heap.size+1+1,1,none⟩) (.inr rfl) (.int .i64 0)
 have hRA:WF.heap[w.heap.size+1]?=some (.cells #[.slice p1 u.globals.length c1,.slice p2 u.funcs.length c2] 25 (0,0)):=by
  rw[hWF,Go.Deep.blk_setCell_other _ ⟨w.heap.size+1+1,1,none⟩ _ _ (by show w.heap.size+1≠w.heap.size+1+1;omega),Go.Deep.blk_setCell_other _ ⟨w.heap.size+1+1,0,none⟩ _ _ (by show w.heap.size+1≠w.heap.size+1+1;omega),qg (qg HAr.out 0 _) 1 _]
  rfl
 have hRE:WF.heap[w.heap.size+1+1]?=some (.cells #[.int .i64 0,.int .i64 0] 27 (0,0)):=by
  have h0:((w3.setCell ⟨w.heap.size+1,0,none⟩ (.slice p1 u.globals.length c1)).setCell ⟨w.heap.size+1,1,none⟩ (.slice p2 u.funcs.length c2)).heap[w.heap.size+1+1]?=some (.cells #[.int .i64 0,.int .i64 0] 27 (0,0)):=by
   rw[Go.Deep.blk_setCell_other _ ⟨w.heap.size+1,1,none⟩ _ _ (by show w.heap.size+1+1≠w.heap.size+1;omega),Go.Deep.blk_setCell_other _ ⟨w.heap.size+1,0,none⟩ _ _ (by show w.heap.size+1+1≠w.heap.size+1;omega)]
   exact HEr.out
  rw[hWF,qg (qg h0 0 _) 1 _]
  rfl
 clear hWF
 obtain⟨ra,_⟩:=blk hRA
 obtain⟨re,_⟩:=blk hRE
 have ra0:=ra 0
 have ra1:=ra 1
 have re0:=re 0
 have re1:=re 1
 simp only[List.getElem?_toArray,List.getElem?_cons_zero,List.getElem?_cons_succ]at ra0 ra1 re0 re1
 refine bodyPost_ret (v:=.tuple #[.agg #[.slice p1 u.globals.length c1,.slice p2 u.funcs.length c2],.agg #[.int .i64 0,.int .i64 0]]) ?_ rfl ⟨⟨p1,c1,p2,c2,rfl,S,?_,fun i hi=>?_⟩,?_⟩
 ·simp[results,Tryz.results12,go_sem,ra0,ra1,re0,re1]
 ·obtain⟨v1,v2,S1,S2,h0,h1,h2,h3,g1,g2⟩:=HS.out
  exact⟨v1,v2,S1,S2,h0,⟨h1.sl.kept zC hK (fun i a b=>by have:=HL.out i (g1 i b);omega),h1.bd⟩,⟨h2.sl.kept zj hK (fun i a b=>by have:=HL.out i (g2 i b);omega),h2.bd⟩,h3,g1,g2⟩
 ·have:=HL.out i hi
  have:=haO.out.size
  omega
 exact HB3.out.trans (hK.below HB3.out.size (fun i e=>by omega))
end Go.Proofs.YtecdphhdmjmmnaaGreatDoor
