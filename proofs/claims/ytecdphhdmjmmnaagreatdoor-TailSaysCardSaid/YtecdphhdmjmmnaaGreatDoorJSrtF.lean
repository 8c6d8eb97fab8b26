/-
  slices.SortFunc at rows of blocks and values (the shelf's contract, laid for this program)
-/
import Derived.Deep.LoopGhost
import Derived.Test.YtecdphhdmjmmnaaGreatDoorJCloN
import Derived.Shelf.SlSortCmp.WholeK
import Derived.Shelf.SlSortCmp.NoneTotal
set_option maxRecDepth 100000
set_option maxHeartbeats 16000000
namespace Go.Proofs.YtecdphhdmjmmnaaGreatDoor
open Go.RowKit Go.Shelf

def xR {α:Type} (k:Nat) (xs:List α):List (Bool×α):=xs.mapIdx fun i x=>(decide (i<k),x)
theorem je {α:Type} (k:Nat) (xs:List α):(xR k xs).length=xs.length:=by simp[xR]
theorem jl {α:Type} {k i:Nat} {xs:List α} (h:i<(xR k xs).length):(xR k xs)[i]=(decide (i<k),xs[i]'(by rw[←je k xs];exact h)):=by simp[xR]
theorem kw {α:Type} {k:Nat} {xs:List α} (h:k<xs.length):(xR k xs).set k (true,xs[k])=xR (k+1) xs:=by
 refine List.ext_getElem (by simp[xR]) fun i h1 h2=>?_
 rw[jl h2,List.getElem_set]
 split
 ·next e=>subst e;simp
 next e=>
 rw[jl]
 congr 1
 rw[decide_eq_decide]
 omega
theorem SlO.flag0 {α:Type} {e:TypeId} {size:Nat} {RO:ElemO α} {R:List Value→α→Prop} {w:World} {v:Value} {xs:List α} {S:Blks} (h:SlO e size (DatO R) w v xs S):SlO e size (xN RO R) w v (xR 0 xs) S:=
 h.imp (je 0 xs) fun i h1 h2 cs T _ hr=>by
  rw[jl h2]
  exact hr
theorem SlO.flagN {α:Type} {e:TypeId} {size:Nat} {RO:ElemO α} {R:List Value→α→Prop} {w:World} {v:Value} {xs:List α} {S:Blks} (h:SlO e size (xN RO R) w v (xR xs.length xs) S):SlO e size RO w v xs S:=
 h.imp (je _ xs).symm fun i h1 h2 cs T _ hr=>by
  rw[jl h1]at hr
  unfold xN at hr
  rw[if_pos (by simpa using h2)]at hr
  exact hr
theorem phi_one {w:World} (cs:List Value) (x:PhiL) (h:PhiR w cs x):∀u∈cs,u.oneCell'=true:=by
 obtain⟨v,rfl,_,_,_,rfl,_⟩:=h
 intro u hu
 simp only[List.mem_cons,List.not_mem_nil,or_false]at hu
 rcases hu with rfl|rfl<;>rfl
theorem ins_one {w:World} (cs:List Value) (x:InsL) (h:InsR w cs x):∀u∈cs,u.oneCell'=true:=by
 obtain⟨v,rfl,_,_,_,_,_,_,_,rfl,_⟩:=h
 intro u hu
 simp only[List.mem_cons,List.not_mem_nil,or_false]at hu
 rcases hu with rfl|rfl|rfl|rfl|rfl|rfl|rfl|rfl<;>rfl
theorem blk_one {w:World} (cs:List Value) (x:BlkL) (h:BlkR w cs x):∀u∈cs,u.oneCell'=true:=by
 obtain⟨v1,v2,v3,rfl,_,_,⟨_,_,rfl,_⟩,⟨_,_,rfl,_⟩,⟨_,_,rfl,_⟩⟩:=h
 intro u hu
 simp only[List.mem_cons,List.not_mem_nil,or_false]at hu
 rcases hu with rfl|rfl|rfl|rfl|rfl|rfl<;>rfl

theorem ZX (f:FunL) (q:Option Addr) (e1:Nat) (w:World) (hn:f.name.size≤reachBytes) (i1:I64 f.params) (i2:I64 f.regs) (hB:SlF w 6 96 (BlkR w) (.slice q f.blocks.length e1) f.blocks) :
  Calls Tryz.prog 60 #[.agg #[.string f.name,.int .i64 f.params,.int .i64 f.regs,.slice q f.blocks.length e1]] w fun e w'=>(∃p c,e = .returned (.agg #[.string f.name,.int .i64 f.params,.int .i64 f.regs,.slice p f.blocks.length c])∧
   ∃S,FunO w' [.string f.name,.int .i64 f.params,.int .i64 f.regs,.slice p f.blocks.length c] f S∧LoB w.heap.size S)∧Below w.heap.size w w':=by
 have hbd:=hB.bdC
 have hq0:q=none→f.blocks.length=0∧e1=0:=by
  obtain⟨p,c,e,h,_⟩:=hB.outC
  cases e
  exact h
 have hBs:SliceAt w 6 (BlkR w) q f.blocks:=by
  obtain⟨p,c,e,_,_,h⟩:=hB.outC
  cases e
  exact h
 have HBs:=q7 hBs
 have HBd:=q7 hbd
 have HQ0:=q7 hq0
 have HN:=q7 (And.intro hn (And.intro i1 i2))
 have hsU:f.blocks.length*96≤140737488351232:=hbd
 clear hB hBs hbd hn i1 i2 hq0
 go_enter Tryz.func60,Tryz.ntmps60
 go_wp2_with fail
 refine(K2 (R:=BlkR w) blk_one f.blocks q e1 _ (HBs.out.mono bZ (by omega) fun _ _ g=>g) HQ0.out HBd.out).mono ?_
 rintro e w1 ⟨p,c,rfl,⟨S1,hS1,hL1⟩,hb1⟩
 have hF1:w1.heap[w.heap.size]?=some (.cells #[.string f.name,.int .i64 f.params,.int .i64 f.regs,.slice q f.blocks.length e1] 37 (0,0)):=qd hb1 (by simp;omega) (qj (qh rfl))
 have hZ1:w1.heap[w.heap.size+1]?=some (.cells #[.string { data:=#[] },.int .i64 0,.int .i64 0,.slice none 0 0] 37 (0,0)):=qd hb1 (by simp) (qh (by simp))
 obtain⟨rb,rf⟩:=blk hF1
 have rz:=q9 hF1
 have HS1:=q7 hS1
 have HL1:=q7 (show ∀k,S1 k→w.heap.size+1+1≤k from fun k h=>by have:=hL1 k h;simpa using this)
 have HB1:=q7 (show Below w.heap.size w w1 from Below.trans bZ (hb1.mono (by simp;omega)))
 have HF1:=q7 hF1
 have HZ1:=q7 hZ1
 clear hS1 hL1 hb1 hF1 hZ1
 go_wp2_with fail
 obtain⟨W0,hW0⟩:∃W0,W0=w1.setCell ⟨w.heap.size,3,none⟩ (.slice p f.blocks.length c):=⟨_,rfl⟩
 rw[←hW0]
 have hz0:W0.heap.size=w1.heap.size:=by rw[hW0];exact Go.Deep.nblk_setCell _ _ _
 have hF0:W0.heap[w.heap.size]?=some (.cells #[.string f.name,.int .i64 f.params,.int .i64 f.regs,.slice p f.blocks.length c] 37 (0,0)):=by
  rw[hW0,qg HF1.out 3 _]
  rfl
 have hZ0:W0.heap[w.heap.size+1]?=some (.cells #[.string { data:=#[] },.int .i64 0,.int .i64 0,.slice none 0 0] 37 (0,0)):=by
  rw[hW0,Go.Deep.blk_setCell_other _ _ _ _ (by show w.heap.size+1≠w.heap.size;omega)]
  exact HZ1.out
 have hb0:Below w.heap.size w W0:=by rw[hW0];exact HB1.out.setCell (Nat.le_refl _) _
 have hS0:SlO 48 6 (xN BlkO (BlkR w)) W0 (.slice p f.blocks.length c) (xR 0 f.blocks) S1:=by
  refine(HS1.out.sl.loc (w':=W0) (Xz _) (fun k hk=>?_) (by omega)).flag0
  rw[hW0]
  exact Go.Deep.blk_setCell_other _ _ _ _ (by have:=HL1.out k hk;show k≠w.heap.size;omega)
 have HF0:=q7 hF0
 have HZ0:=q7 hZ0
 have HB0:=q7 hb0
 have HS0:=q7 hS0
 have hz1:w.heap.size+1+1≤W0.heap.size:=q9 hZ0
 clear hF0 hZ0 hb0 hS0 hW0 HS1 HB1 HF1 HZ1 rb rf rz
 go_loopg [16] f.blocks.length (fun q s16 wr=>∃(k:Nat) (S:Blks),k≤f.blocks.length∧q=f.blocks.length - k∧s16 = .int .i64 k∧SlO 48 6 (xN BlkO (BlkR w)) wr (.slice p f.blocks.length c) (xR k f.blocks) S∧(∀g,S g→w.heap.size+1+1≤g)∧Below (w.heap.size+1+1) W0 wr)
 case atStart=>exact⟨0,S1,by omega,rfl,rfl,HS0.out,HL1.out,Below.refl _ _⟩
 case round=>
  obtain⟨wo,hwo⟩:∃wo,wo=wr:=⟨_,rfl⟩
  subst hwo
  obtain⟨k,S,hk,rfl,rfl,hO,hL,hb⟩:=hrel
  have HO:=q7 hO
  have HL:=q7 hL
  have HB:=q7 hb
  have hsz:=hb.size
  have HBw:Hid (Below w.heap.size w wo):=q7 (HB0.out.trans (hb.mono (by omega)))
  have hFr:wo.heap[w.heap.size]?=some (.cells #[.string f.name,.int .i64 f.params,.int .i64 f.regs,.slice p f.blocks.length c] 37 (0,0)):=(hb.block _ (by omega)).trans HF0.out
  have HFr:=q7 hFr
  clear hO hL hb hFr
  by_cases hlt:k<f.blocks.length
  rotate_left
  ·obtain rfl:k=f.blocks.length:=by omega
   have hOd:=HO.out.flagN
   have hZr:wo.heap[w.heap.size+1]?=some (.cells #[.string { data:=#[] },.int .i64 0,.int .i64 0,.slice none 0 0] 37 (0,0)):=(HB.out.block _ (by omega)).trans HZ0.out
   obtain⟨fb,ff⟩:=blk HFr.out
   have fb0:=fb 0
   have fb1:=fb 1
   have fb2:=fb 2
   have fb3:=fb 3
   have fz:=q9 HFr.out
   obtain⟨yb,yf⟩:=blk hZr
   have yb0:=yb 0
   have yb1:=yb 1
   have yb2:=yb 2
   have yb3:=yb 3
   simp only[List.getElem?_toArray,List.getElem?_cons_zero,List.getElem?_cons_succ]at fb0 fb1 fb2 fb3 yb0 yb1 yb2 yb3
   have yz:=q9 hZr
   have HOd:=q7 hOd
   have HZr:=q7 hZr
   clear hOd hZr fb yb
   go_wp2_with fail
   obtain⟨WF,hWF⟩:∃WF,WF=(((wo.setCell ⟨w.heap.size+1,0,none⟩ (.string f.name)).setCell ⟨w.heap.size+1,1,none⟩ (.int .i64 f.params)).setCell ⟨w.heap.size+1,2,none⟩ (.int .i64 f.regs)).setCell ⟨w.heap.size+1,3,none⟩ (.slice p f.blocks.length c):=⟨_,rfl⟩
   rw[←hWF]
   have hK:Kept (fun i=>i=w.heap.size+1) wo WF:=by
    rw[hWF]
    have h0:Kept (fun i=>i=w.heap.size+1) wo wo:=Kept.refl _ wo
    have h1:=h0.setCell (p:=⟨w.heap.size+1,0,none⟩) rfl (.string f.name)
    have h2:=h1.setCell (p:=⟨w.heap.size+1,1,none⟩) rfl (.int .i64 f.params)
    have h3:=h2.setCell (p:=⟨w.heap.size+1,2,none⟩) rfl (.int .i64 f.regs)
    exact h3.setCell (p:=⟨w.heap.size+1,3,none⟩) rfl (.slice p f.blocks.length c)
   have hRF:WF.heap[w.heap.size+1]?=some (.cells #[.string f.name,.int .i64 f.params,.int .i64 f.regs,.slice p f.blocks.length c] 37 (0,0)):=by
    rw[hWF,qg (qg (qg (qg HZr.out 0 _) 1 _) 2 _) 3 _]
    rfl
   clear hWF
   obtain⟨rb,_⟩:=blk hRF
   have rb0:=rb 0
   have rb1:=rb 1
   have rb2:=rb 2
   have rb3:=rb 3
   simp only[List.getElem?_toArray,List.getElem?_cons_zero,List.getElem?_cons_succ]at rb0 rb1 rb2 rb3
   refine bodyPost_ret (v:=.agg #[.string f.name,.int .i64 f.params,.int .i64 f.regs,.slice p f.blocks.length c]) ?_ rfl ⟨⟨p,c,rfl,S,⟨_,rfl,HN.out.1,HN.out.2.1,HN.out.2.2,⟨HOd.out.kept qE hK (fun i h1 h2=>by have:=HL.out i h2;omega),HBd.out⟩⟩,fun i hi=>by have:=HL.out i hi;omega⟩,HBw.out.trans (hK.below (by omega) (fun i e=>by omega))⟩
   simp[results,Tryz.results60,go_sem,rb0,rb1,rb2,rb3]
  have hlt':k<(xR k f.blocks).length:=by rw[je];exact hlt
  obtain⟨g,cc,cs,T,hv,hg,hSg,hcl,hx,hTg,hTS,hce,hfz,⟨cur,hau⟩,put⟩:=HO.out.focus (Qw qE _) (by omega) hlt'
  rw[jl hlt']at hx
  unfold xN at hx
  rw[if_neg (by simp)]at hx
  obtain⟨v1,v2,v3,rfl,b3,b4,b5,b6,b7⟩:=(show BlkR w cs f.blocks[k]from hx)
  obtain⟨q1,d1,rfl,a1,_,z1⟩:=b5.outC
  obtain⟨q2,d2,rfl,a2,_,z2⟩:=b6.outC
  obtain⟨q3,d3,rfl,a3,_,z3⟩:=b7.outC
  have hp:p=some ⟨g,0,none⟩:=by injection hv
  subst hp
  have c0:=hce 0 (by omega)
  have c1:=hce 1 (by omega)
  have c2:=hce 2 (by omega)
  have c3:=hce 3 (by omega)
  have c4:=hce 4 (by omega)
  have c5:=hce 5 (by omega)
  simp only[List.getElem?_cons_zero,List.getElem?_cons_succ,Nat.add_zero]at c0 c1 c2 c3 c4 c5
  have HR:=q7 (And.intro b3 (And.intro b4 (And.intro z1 (And.intro z2 z3))))
  have HA:=q7 (And.intro a1 (And.intro a2 a3))
  have hdY:=q7 (And.intro b5.bdC (And.intro b6.bdC b7.bdC))
  have haG:=q7 put
  have HT:=q7 (And.intro hTg hTS)
  have hbZ:=q7 hau
  have HCe:=q7 hce
  have HFz:=q7 hfz
  have HSg:=q7 hSg
  have hgl:w.heap.size+1+1≤g:=HL.out g hSg
  have hl1:=b5.bdC
  have hl2:=b6.bdC
  unfold reachBytes at hl1 hl2
  clear hv hx b3 b4 b5 b6 b7 a1 a2 a3 z1 z2 z3 put hTg hTS hau hcl hce hSg
  go_wp2_with fail
  refine(VZ (R:=PhiR w) phi_one f.blocks[k].phis q1 d1 _ (HR.out.2.2.1.mono (HBw.out.trans bZ) (by omega) fun _ _ g=>g) HA.out.1 hdY.out.1).mono ?_
  rintro e w2 ⟨p1,m1,rfl,⟨S2,hS2,hL2⟩,hb2⟩
  have hr2:Below wo.heap.size wo w2:=Below.trans bZ (hb2.mono (by simp))
  have hX2:w2.heap[wo.heap.size]?=some (.cells #[.slice q1 f.blocks[k].phis.length d1,.slice q2 f.blocks[k].list.length d2,.int .i64 f.blocks[k].fin.kind,.bool f.blocks[k].fin.onr,.int .i64 f.blocks[k].fin.onn,.slice q3 f.blocks[k].fin.to.length d3] 48 (0,0)):=qd hb2 (by simp) (qh rfl)
  obtain⟨rb,rf⟩:=blk hX2
  have rz:=q9 hX2
  have HS2:=q7 hS2
  have HL2:=q7 (show ∀k,S2 k→wo.heap.size+1≤k from fun k h=>by have:=hL2 k h;simpa using this)
  have HR2:=q7 hr2
  have HX2:=q7 hX2
  clear hS2 hL2 hb2 hr2 hX2 c0 c1 c2 c3 c4 c5 hfz
  go_wp2_with fail
  obtain⟨W2,hW2⟩:∃W2,W2=w2.setCell ⟨wo.heap.size,0,none⟩ (.slice p1 f.blocks[k].phis.length m1):=⟨_,rfl⟩
  rw[←hW2]
  clear rb rf rz
  have hX:W2.heap[wo.heap.size]?=some (.cells #[.slice p1 f.blocks[k].phis.length m1,.slice q2 f.blocks[k].list.length d2,.int .i64 f.blocks[k].fin.kind,.bool f.blocks[k].fin.onr,.int .i64 f.blocks[k].fin.onn,.slice q3 f.blocks[k].fin.to.length d3] 48 (0,0)):=by
   rw[hW2,qg HX2.out 0 _]
   rfl
  have hr3:Below wo.heap.size wo W2:=by rw[hW2];exact HR2.out.setCell (Nat.le_refl _) _
  have hS3:SlO 101 2 (xN PhiO (PhiR w)) W2 (.slice p1 f.blocks[k].phis.length m1) (xR 0 f.blocks[k].phis) S2:=by
   refine(HS2.out.sl.loc (w':=W2) (Xz _) (fun k hk=>?_) (by rw[hW2];simp[World.setCell])).flag0
   rw[hW2]
   exact Go.Deep.blk_setCell_other _ _ _ _ (by have:=HL2.out k hk;show k≠wo.heap.size;omega)
  have HX:=q7 hX
  have HR3:=q7 hr3
  have HS3:=q7 hS3
  have hz3:wo.heap.size+1≤W2.heap.size:=q9 hX
  clear hX hr3 hS3 hW2 HX2 HS2 HR2
  go_loopg [28] f.blocks[k].phis.length (fun q s28 wr=>∃(j:Nat) (S:Blks),j≤f.blocks[k].phis.length∧q=f.blocks[k].phis.length - j∧s28 = .int .i64 j∧SlO 101 2 (xN PhiO (PhiR w)) wr (.slice p1 f.blocks[k].phis.length m1) (xR j f.blocks[k].phis) S∧(∀g,S g→wo.heap.size+1≤g)∧Below (wo.heap.size+1) W2 wr)
  case atStart=>exact⟨0,S2,by omega,rfl,rfl,HS3.out,HL2.out,Below.refl _ _⟩
  case round=>
   obtain⟨j,Sj,hj,rfl,rfl,hO,hL,hb⟩:=hrel
   have HOj:=q7 hO
   have HLj:=q7 hL
   have HBj:=q7 hb
   have hgI:=hb.size
   have hez:Hid (Below w.heap.size w wr):=q7 (HBw.out.trans ((HR3.out.mono (by omega)).trans (hb.mono (by omega))))
   have hXj:wr.heap[wo.heap.size]?=some (.cells #[.slice p1 f.blocks[k].phis.length m1,.slice q2 f.blocks[k].list.length d2,.int .i64 f.blocks[k].fin.kind,.bool f.blocks[k].fin.onr,.int .i64 f.blocks[k].fin.onn,.slice q3 f.blocks[k].fin.to.length d3] 48 (0,0)):=(hb.block _ (by omega)).trans HX.out
   have HXj:=q7 hXj
   obtain⟨xb,xf⟩:=blk hXj
   have xz:=q9 hXj
   clear hO hL hb hXj
   by_cases hjl:j<f.blocks[k].phis.length
   ·have haH:j<(xR j f.blocks[k].phis).length:=by rw[je];exact hjl
    obtain⟨ge,cce,cse,Te,hve,hge,heA,heB,hxe,heC,heD,haP,heE,⟨cure,hbI⟩,pute⟩:=HOj.out.focus (Qw zq _) (by omega) haH
    rw[jl haH]at hxe
    unfold xN at hxe
    rw[if_neg (by simp)]at hxe
    obtain⟨ve,rfl,hd,hse⟩:=(show PhiR w cse f.blocks[k].phis[j]from hxe)
    obtain⟨qe,ce,rfl,ae,_,ze⟩:=hse.outC
    have hpe:p1=some ⟨ge,0,none⟩:=by injection hve
    subst hpe
    have e0:=haP 0 (by omega)
    have e1:=haP 1 (by omega)
    simp only[List.getElem?_cons_zero,List.getElem?_cons_succ,Nat.add_zero]at e0 e1
    have HE:=q7 (And.intro ae (And.intro hse.bdC ze))
    have HRe:=q7 (show PhiR w [.int .i64 f.blocks[k].phis[j].dst,.slice qe f.blocks[k].phis[j].src.length ce] f.blocks[k].phis[j] from⟨_,rfl,hd,hse⟩)
    have hdA:=q7 pute
    have HTe:=q7 (And.intro heC heD)
    have hdB:=q7 hbI
    have heF:=q7 haP
    have hhL:=q7 heE
    have hhM:wo.heap.size+1≤ge:=HLj.out ge heA
    clear hve hxe ae ze hse pute heC heD hbI heB haP heA
    go_wp2_with fail
    obtain⟨w3,hw3⟩:∃w3,w3=wr.alloc (.cells #[.int .i64 f.blocks[k].phis[j].dst,.slice qe f.blocks[k].phis[j].src.length ce] 101):=⟨_,rfl⟩
    rw[←hw3]
    have hz4:w3.heap.size=wr.heap.size+1:=by rw[hw3];simp
    have hb4:Below wr.heap.size wr w3:=by rw[hw3];exact bZ
    have hX4:w3.heap[wo.heap.size]?=some (.cells #[.slice (some ⟨ge,0,none⟩) f.blocks[k].phis.length m1,.slice q2 f.blocks[k].list.length d2,.int .i64 f.blocks[k].fin.kind,.bool f.blocks[k].fin.onr,.int .i64 f.blocks[k].fin.onn,.slice q3 f.blocks[k].fin.to.length d3] 48 (0,0)):=(hb4.block _ xz).trans HXj.out
    have hY4:w3.heap[wr.heap.size]?=some (.cells #[.int .i64 f.blocks[k].phis[j].dst,.slice qe f.blocks[k].phis[j].src.length ce] 101 (0,0)):=by rw[hw3];exact qh rfl
    have HB4:=q7 hb4
    clear hw3 hb4 xb xf e0 e1 heE
    obtain⟨Sp,hSp⟩:∃Sp:World→Prop,Sp=fun w'=>w'.heap[wo.heap.size]?=some (.cells #[.slice (some ⟨ge,0,none⟩) f.blocks[k].phis.length m1,.slice q2 f.blocks[k].list.length d2,.int .i64 f.blocks[k].fin.kind,.bool f.blocks[k].fin.onr,.int .i64 f.blocks[k].fin.onn,.slice q3 f.blocks[k].fin.to.length d3] 48 (0,0))∧w'.heap[wr.heap.size]?=some (.cells #[.int .i64 f.blocks[k].phis[j].dst,.slice qe f.blocks[k].phis[j].src.length ce] 101 (0,0)):=⟨_,rfl⟩
    have ha6:∀w',Sp w'→(∀i,w'.cell? ⟨wo.heap.size,i,none⟩=(#[.slice (some ⟨ge,0,none⟩) f.blocks[k].phis.length m1,.slice q2 f.blocks[k].list.length d2,.int .i64 f.blocks[k].fin.kind,.bool f.blocks[k].fin.onr,.int .i64 f.blocks[k].fin.onn,.slice q3 f.blocks[k].fin.to.length d3]:Array Value)[i]?)∧(∀i,w'.cell? ⟨wr.heap.size,i,none⟩=(#[.int .i64 f.blocks[k].phis[j].dst,.slice qe f.blocks[k].phis[j].src.length ce]:Array Value)[i]?)∧wo.heap.size<w'.heap.size∧wr.heap.size<w'.heap.size:=fun w' h=>by
     rw[hSp]at h
     exact⟨(blk h.1).1,(blk h.2).1,q9 h.1,q9 h.2⟩
    have hS4:Sp w3.drew:=by rw[hSp];exact⟨hX4,hY4⟩
    refine qm (S:=Sp) (by kernel_rfl) 8 ?_
    refine tkZ 0 33 (.pointer (some ⟨wo.heap.size,0,none⟩)) rfl rfl hS4 (fun w' h=>?_) ?_
    ·obtain⟨h1,h2,h3,h4⟩:=ha6 w' h
     have g1:=h1 0
     have g2:=h2 1
     clear h1 h2
     simp only[List.getElem?_toArray,List.getElem?_cons_zero,List.getElem?_cons_succ]at g1 g2
     go_simp
    refine tkZ 1 34 (.slice (some ⟨ge,0,none⟩) f.blocks[k].phis.length m1) rfl rfl hS4 (fun w' h=>?_) ?_
    ·obtain⟨h1,h2,h3,h4⟩:=ha6 w' h
     have g1:=h1 0
     have g2:=h2 1
     clear h1 h2
     simp only[List.getElem?_toArray,List.getElem?_cons_zero,List.getElem?_cons_succ]at g1 g2
     go_simp
    refine tkZ 2 35 (.int .i64 j) rfl rfl hS4 (fun w' h=>?_) ?_
    ·obtain⟨h1,h2,h3,h4⟩:=ha6 w' h
     have g1:=h1 0
     have g2:=h2 1
     clear h1 h2
     simp only[List.getElem?_toArray,List.getElem?_cons_zero,List.getElem?_cons_succ]at g1 g2
     go_simp
    refine tkZ 3 36 (.pointer (some ⟨wr.heap.size,1,none⟩)) rfl rfl hS4 (fun w' h=>?_) ?_
    ·obtain⟨h1,h2,h3,h4⟩:=ha6 w' h
     have g1:=h1 0
     have g2:=h2 1
     clear h1 h2
     simp only[List.getElem?_toArray,List.getElem?_cons_zero,List.getElem?_cons_succ]at g1 g2
     go_simp
    refine tkZ 4 37 (.slice qe f.blocks[k].phis[j].src.length ce) rfl rfl hS4 (fun w' h=>?_) ?_
    ·obtain⟨h1,h2,h3,h4⟩:=ha6 w' h
     have g1:=h1 0
     have g2:=h2 1
     clear h1 h2
     simp only[List.getElem?_toArray,List.getElem?_cons_zero,List.getElem?_cons_succ]at g1 g2
     go_simp
    refine qk (i:=5) (by kernel_rfl) (qt 38 rfl rfl rfl (by go_simp) (vy f.blocks[k].phis[j].src qe ce w3.drew (HE.out.2.2.mono ((hez.out.trans (HB4.out.mono (by omega))).drew) (by omega) fun _ _ g=>g) HE.out.1 HE.out.2.1) ?_)
    rintro e w5 ⟨pe,me,rfl,⟨Se,hSe,hLe⟩,hb5⟩
    have hb5:Below w3.heap.size w3 w5:=(Below.refl _ w3).drew.trans hb5
    have hLe:∀k,Se k→w3.heap.size≤k:=hLe
    have haT:Sp w5:=by
     rw[hSp]
     exact⟨(hb5.block _ (q9 hX4)).trans hX4,(hb5.block _ (q9 hY4)).trans hY4⟩
    refine⟨_,rfl,haT,?_⟩
    have hz5:=hb5.size
    have HSe:=q7 hSe
    have HLe:=q7 hLe
    have HB5:=q7 (HB4.out.trans (hb5.mono (by omega)))
    clear hSe hLe hb5
    refine qk (i:=6) (by kernel_rfl) (qn 39 (.pointer (some ⟨ge,j*2,none⟩)) w5 rfl rfl rfl (by go_simp) haT ?_)
    refine qk (i:=7) (by kernel_rfl) (qn 40 (.pointer (some ⟨ge,j*2+1,none⟩)) w5 rfl rfl rfl (by go_simp) haT ?_)
    have r1:w5.cell? ⟨ge,j*2+1,none⟩=some (.slice qe f.blocks[k].phis[j].src.length ce):=(World.cell?_of_block (a:=⟨ge,j*2+1,none⟩) (HB5.out.block ge hge)).trans (heF.out 1 (by omega))
    have r2:w5.frozen? ⟨ge,j*2+1,none⟩=false:=(World.frozen?_of_block (a:=⟨ge,j*2+1,none⟩) (HB5.out.block ge hge)).trans (hhL.out _)
    have r3:ge<w5.heap.size:=by omega
    refine qk (i:=8) (by kernel_rfl) (qz (w5.setCell ⟨ge,j*2+1,none⟩ (.slice pe f.blocks[k].phis[j].src.length me)) rfl rfl rfl (by go_simp) (fun h=>absurd rfl h) (qB (by kernel_rfl) ?_ _))
    show Exit.inBlock 3 _ Exit.normal _ _
    have hput:=hdA.out (w5.setCell ⟨ge,j*2+1,none⟩ (.slice pe f.blocks[k].phis[j].src.length me)) [.int .i64 f.blocks[k].phis[j].dst,.slice pe f.blocks[k].phis[j].src.length me] (true,f.blocks[k].phis[j]) Se
     (RowPut.set (RowPut.same hdB.out (HB5.out.block ge hge) heF.out) rfl (j:=1) (by omega) _) rfl (fun u hu=>by
      simp only[List.mem_cons,List.not_mem_nil,or_false]at hu
      rcases hu with rfl|rfl<;>rfl) (by rw[Go.Deep.nblk_setCell];omega) (fun i h1 h2 h3=>(Go.Deep.blk_setCell_other w5 ⟨ge,j*2+1,none⟩ _ i h3).trans (HB5.out.block i (HOj.out.inb i h1)))
     (by
      obtain⟨ve,h0,hd,_⟩:=HRe.out
      have hL9:∀i,Se i→i≠ge:=fun i hi=>by have:=HLe.out i hi;omega
      exact⟨_,rfl,hd,HSe.out.loc zT (fun _ h=>h) (fun i hi=>Go.Deep.blk_setCell_other w5 ⟨ge,j*2+1,none⟩ _ i (hL9 i hi)) (by rw[Go.Deep.nblk_setCell];omega)⟩)
     (fun i hi=>⟨.inr (by have:=HLe.out i hi;omega),by rw[Go.Deep.nblk_setCell];exact HSe.out.sl.inb i hi⟩)
    rw[kw hjl]at hput
    have hrel:SlO 101 2 (xN PhiO (PhiR w)) (w5.setCell ⟨ge,j*2+1,none⟩ (.slice pe f.blocks[k].phis[j].src.length me)) (.slice (some ⟨ge,0,none⟩) f.blocks[k].phis.length m1) (xR (j+1) f.blocks[k].phis) (fun i=>Sj i∨Se i)∧(∀i,Sj i∨Se i→wo.heap.size+1≤i)∧Below (wo.heap.size+1) W2 (w5.setCell ⟨ge,j*2+1,none⟩ (.slice pe f.blocks[k].phis[j].src.length me)):=by
     refine⟨hput,fun i hi=>?_,?_⟩
     ·rcases hi with h|h
      ·exact HLj.out i h
      have:=HLe.out i h;omega
     exact(HBj.out.trans (HB5.out.mono (by omega))).setCell hhM _
    have ha7:=q7 hrel
    clear hrel hput r1 r2 haT hS4 hX4 hY4
    go_wp2_with fail
    go_roundg (f.blocks[k].phis.length - (j+1))
    case measure=>omega
    case rel=>exact⟨j+1,_,by omega,rfl,by go_num,ha7.out.1,ha7.out.2.1,ha7.out.2.2⟩
   obtain rfl:j=f.blocks[k].phis.length:=by omega
   obtain⟨Wa,hWa⟩:∃Wa,Wa=wr:=⟨_,rfl⟩
   subst hWa
   have HPh:=q7 HOj.out.flagN
   have HLp:=HLj
   have HBa:=HBj
   clear HOj HLj HBj HS3 HL2 HX
   go_wp2_with fail
   refine(K1 (R:=InsR w) ins_one f.blocks[k].list q2 d2 _ (HR.out.2.2.2.1.mono hez.out (by omega) fun _ _ g=>g) HA.out.2.1 hdY.out.2.1).mono ?_
   rintro e w6 ⟨p2,m2,rfl,⟨S6,hS6,hL6⟩,hb6⟩
   have hX6:w6.heap[wo.heap.size]?=some (.cells #[.slice p1 f.blocks[k].phis.length m1,.slice q2 f.blocks[k].list.length d2,.int .i64 f.blocks[k].fin.kind,.bool f.blocks[k].fin.onr,.int .i64 f.blocks[k].fin.onn,.slice q3 f.blocks[k].fin.to.length d3] 48 (0,0)):=(hb6.block _ xz).trans HXj.out
   clear xb xf xz HXj
   obtain⟨xb,xf⟩:=blk hX6
   have xz:=q9 hX6
   have HS6:=q7 hS6
   have HL2:=q7 (show ∀i,S6 i→Wa.heap.size≤i from hL6)
   have HB6:=q7 hb6
   have HX6:=q7 hX6
   have hz6:=hb6.size
   clear hS6 hL6 hb6 hX6
   go_wp2_with fail
   obtain⟨W6,hW6⟩:∃W6,W6=w6.setCell ⟨wo.heap.size,1,none⟩ (.slice p2 f.blocks[k].list.length m2):=⟨_,rfl⟩
   rw[←hW6]
   clear xb xf xz
   have hX:W6.heap[wo.heap.size]?=some (.cells #[.slice p1 f.blocks[k].phis.length m1,.slice p2 f.blocks[k].list.length m2,.int .i64 f.blocks[k].fin.kind,.bool f.blocks[k].fin.onr,.int .i64 f.blocks[k].fin.onn,.slice q3 f.blocks[k].fin.to.length d3] 48 (0,0)):=by
    rw[hW6,qg HX6.out 1 _]
    rfl
   have hhN:∀i,i≠wo.heap.size→W6.heap[i]?=w6.heap[i]?:=fun i hi=>by rw[hW6];exact Go.Deep.blk_setCell_other _ _ _ _ hi
   have hsV:W6.heap.size=w6.heap.size:=by rw[hW6];exact Go.Deep.nblk_setCell _ _ _
   have hza:wo.heap.size+1≤Wa.heap.size:=by omega
   have hdZ:Below wo.heap.size wo W6:=by rw[hW6];exact(HR3.out.trans ((HBa.out.trans (HB6.out.mono (by omega))).mono (by omega))).setCell (Nat.le_refl _) _
   have hS3:SlO 53 8 (xN InsO (InsR w)) W6 (.slice p2 f.blocks[k].list.length m2) (xR 0 f.blocks[k].list) S6:=
    (HS6.out.sl.loc (w':=W6) (Xz _) (fun i hi=>hhN i (by have:=HL2.out i hi;omega)) (by omega)).flag0
   have hkT:SlO 101 2 PhiO W6 (.slice p1 f.blocks[k].phis.length m1) f.blocks[k].phis Sj:=
    HPh.out.loc zq (fun i hi=>(hhN i (by have:=HLp.out i hi;omega)).trans (HB6.out.block i (HPh.out.inb i hi))) (by omega)
   have hkU:∀i,Sj i→wo.heap.size+1≤i∧i<Wa.heap.size:=fun i hi=>⟨HLp.out i hi,HPh.out.inb i hi⟩
   clear HR3 HPh HLp
   have HX:=q7 hX
   have HR3:=q7 hdZ
   have HS3:=q7 hS3
   have HPh:=q7 hkT
   have HLp:=q7 hkU
   have hz7:Wa.heap.size≤W6.heap.size:=by omega
   obtain⟨Sp1,hoY⟩:∃Sp1,Sp1=Sj:=⟨_,rfl⟩
   subst hoY
   clear hX hdZ hS3 hkT hkU hhN hW6 HS6 HX6 HBa
   go_loopg [49] f.blocks[k].list.length (fun q s49 wr=>∃(j:Nat) (S:Blks),j≤f.blocks[k].list.length∧q=f.blocks[k].list.length - j∧s49 = .int .i64 j∧SlO 53 8 (xN InsO (InsR w)) wr (.slice p2 f.blocks[k].list.length m2) (xR j f.blocks[k].list) S∧(∀g,S g→Wa.heap.size≤g)∧Below (Wa.heap.size) W6 wr)
   case atStart=>exact⟨0,S6,by omega,rfl,rfl,HS3.out,HL2.out,Below.refl _ _⟩
   case round=>
    obtain⟨j,Sj,hj,rfl,rfl,hO,hL,hb⟩:=hrel
    have HOj:=q7 hO
    have HLj:=q7 hL
    have HBj:=q7 hb
    have hgI:=hb.size
    have hez:Hid (Below w.heap.size w wr):=q7 (HBw.out.trans ((HR3.out.mono (by omega)).trans (hb.mono (by omega))))
    have hXj:wr.heap[wo.heap.size]?=some (.cells #[.slice p1 f.blocks[k].phis.length m1,.slice p2 f.blocks[k].list.length m2,.int .i64 f.blocks[k].fin.kind,.bool f.blocks[k].fin.onr,.int .i64 f.blocks[k].fin.onn,.slice q3 f.blocks[k].fin.to.length d3] 48 (0,0)):=(hb.block _ (by omega)).trans HX.out
    have HXj:=q7 hXj
    obtain⟨xb,xf⟩:=blk hXj
    have xz:=q9 hXj
    clear hO hL hb hXj
    by_cases hjl:j<f.blocks[k].list.length
    rotate_left
    ·obtain rfl:j=f.blocks[k].list.length:=by omega
     obtain⟨Wb,hWb⟩:∃Wb,Wb=wr:=⟨_,rfl⟩
     subst hWb
     have HIs:=q7 HOj.out.flagN
     have HLi:=HLj
     have HBi:=HBj
     have HBb:=q7 (show Below (wo.heap.size+1) W6 Wb from HBj.out.mono (by omega))
     clear HOj HLj HBj HS3 HL2
     go_wp2_with fail
     refine(vB f.blocks[k].fin.to q3 d3 _ (HR.out.2.2.2.2.mono hez.out (by omega) fun _ _ g=>g) HA.out.2.2 hdY.out.2.2).mono ?_
     rintro e w8 ⟨p3,m3,rfl,⟨S8,hS8,hL8⟩,hb8⟩
     have hX8:w8.heap[wo.heap.size]?=some (.cells #[.slice p1 f.blocks[k].phis.length m1,.slice p2 f.blocks[k].list.length m2,.int .i64 f.blocks[k].fin.kind,.bool f.blocks[k].fin.onr,.int .i64 f.blocks[k].fin.onn,.slice q3 f.blocks[k].fin.to.length d3] 48 (0,0)):=(hb8.block _ xz).trans HXj.out
     have hz8:=hb8.size
     obtain⟨yb,yf⟩:=blk hX8
     have yz:=q9 hX8
     have hb9:Below wo.heap.size wo w8:=HR3.out.trans ((HBb.out.trans (hb8.mono (by omega))).mono (by omega))
     have hcX:∀i,i<6→w8.cell? ⟨g,k*6+i,none⟩=_:=fun i hi=>(World.cell?_of_block (a:=⟨g,k*6+i,none⟩) (hb9.block g hg)).trans (HCe.out i hi)
     have c0:=hcX 0 (by omega)
     have c1:=hcX 1 (by omega)
     have c2:=hcX 2 (by omega)
     have c3:=hcX 3 (by omega)
     have c4:=hcX 4 (by omega)
     have c5:=hcX 5 (by omega)
     simp only[List.getElem?_cons_zero,List.getElem?_cons_succ,Nat.add_zero]at c0 c1 c2 c3 c4 c5
     have hsW:∀i,w8.frozen? ⟨g,i,none⟩=false:=fun i=>(World.frozen?_of_block (a:=⟨g,i,none⟩) (hb9.block g hg)).trans (HFz.out i)
     have hf8:w8.heap[w.heap.size]?=some (.cells #[.string f.name,.int .i64 f.params,.int .i64 f.regs,.slice (some ⟨g,0,none⟩) f.blocks.length c] 37 (0,0)):=(hb9.block _ (by omega)).trans HFr.out
     obtain⟨fb,ff⟩:=blk hf8
     have fz:=q9 hf8
     have hgz:g<w8.heap.size:=by omega
     have HS8:=q7 hS8
     have HL8:=q7 (show ∀i,S8 i→Wb.heap.size≤i from hL8)
     have HB8:=q7 hb8
     have HB9:=q7 hb9
     have HX8:=q7 hX8
     clear hS8 hL8 hb8 hb9 hcX hX8 hf8 xb xf
     obtain⟨Wf,hWf⟩:∃Wf,Wf=six (w8.setCell ⟨wo.heap.size,5,none⟩ (.slice p3 f.blocks[k].fin.to.length m3)) g (k*6) (.slice p1 f.blocks[k].phis.length m1) (.slice p2 f.blocks[k].list.length m2) (.int .i64 f.blocks[k].fin.kind) (.bool f.blocks[k].fin.onr) (.int .i64 f.blocks[k].fin.onn) (.slice p3 f.blocks[k].fin.to.length m3):=⟨_,rfl⟩
     have HWf:=q7 hWf
     clear hWf
     go_wp2_with fail
     unfold six at HWf
     rw[←HWf.out]
     have hWf:=HWf.out
     rw[←six]at hWf
     have hgo:g≠wo.heap.size:=by omega
     have hgJ:∀i,i≠wo.heap.size→i≠g→Wf.heap[i]?=w8.heap[i]?:=fun i h1 h2=>by
      rw[hWf,six_other _ _ _ _ _ _ _ _ _ h2]
      exact Go.Deep.blk_setCell_other _ _ _ i h1
     have hsX:Wf.heap.size=w8.heap.size:=by rw[hWf,six_size];exact Go.Deep.nblk_setCell _ _ _
     have hrow:RowPut wo Wf 48 g (k*6) 6 [.slice p1 f.blocks[k].phis.length m1,.slice p2 f.blocks[k].list.length m2,.int .i64 f.blocks[k].fin.kind,.bool f.blocks[k].fin.onr,.int .i64 f.blocks[k].fin.onn,.slice p3 f.blocks[k].fin.to.length m3]:=by
      rw[hWf]
      exact(RowPut.same hbZ.out ((Go.Deep.blk_setCell_other _ _ _ g hgo).trans (HB9.out.block g hg)) HCe.out).six rfl _ _ _ _ _ _
     have hap:∀i,Sp1 i→i≠wo.heap.size∧i≠g:=fun i hi=>by have:=(HLp.out i hi).1;omega
     have hai:∀i,Sj i→i≠wo.heap.size∧i≠g:=fun i hi=>by have:=HLi.out i hi;omega
     have hat:∀i,S8 i→i≠wo.heap.size∧i≠g:=fun i hi=>by have:=HL8.out i hi;omega
     have hPf:SlO 101 2 PhiO Wf (.slice p1 f.blocks[k].phis.length m1) f.blocks[k].phis Sp1:=HPh.out.loc zq (fun i hi=>(hgJ i (hap i hi).1 (hap i hi).2).trans ((HB8.out.block i (by have:=(HLp.out i hi).2;omega)).trans (HBi.out.block i (HLp.out i hi).2))) (by omega)
     have hIf:SlO 53 8 InsO Wf (.slice p2 f.blocks[k].list.length m2) f.blocks[k].list Sj:=HIs.out.loc qH (fun i hi=>(hgJ i (hai i hi).1 (hai i hi).2).trans (HB8.out.block i (HIs.out.inb i hi))) (by omega)
     have hTf:SlO 3 1 kP Wf (.slice p3 f.blocks[k].fin.to.length m3) f.blocks[k].fin.to S8:=HS8.out.sl.loc qT (fun i hi=>hgJ i (hat i hi).1 (hat i hi).2) (by omega)
     have hput:=haG.out Wf _ (true,f.blocks[k]) (fun i=>Sp1 i∨Sj i∨S8 i) hrow rfl (fun u hu=>by
       simp only[List.mem_cons,List.not_mem_nil,or_false]at hu
       rcases hu with rfl|rfl|rfl|rfl|rfl|rfl<;>rfl) (by omega) (fun i h1 h2 h3=>(hgJ i (by have:=HO.out.inb i h1;omega) h3).trans (HB9.out.block i (HO.out.inb i h1)))
      ⟨_,_,_,Sp1,Sj,S8,rfl,HR.out.1,HR.out.2.1,⟨hPf,hdY.out.1⟩,⟨hIf,hdY.out.2.1⟩,⟨hTf,hdY.out.2.2⟩,fun i h1 h2=>by have:=(HLp.out i h1).2;have:=HLi.out i h2;omega,fun i h1 h2=>by have:=(HLp.out i h1).2;have:=HL8.out i h2;omega,fun i h1 h2=>by have:=HIs.out.inb i h1;have:=HL8.out i h2;omega,fun _ h=>.inl h,fun _ h=>.inr (.inl h),fun _ h=>.inr (.inr h)⟩
      (fun i hi=>by
       rcases hi with h|h|h
       ·have:=HLp.out i h;exact⟨.inr (by omega),by omega⟩
       ·have:=HLi.out i h;have:=HIs.out.inb i h;exact⟨.inr (by omega),by omega⟩
       have:=HL8.out i h;have:=HS8.out.sl.inb i h;exact⟨.inr (by omega),by omega⟩)
     rw[kw hlt]at hput
     have hbf:Below (w.heap.size+1+1) W0 Wf:=by
      rw[hWf]
      have h1:Below (w.heap.size+1+1) W0 (w8.setCell ⟨wo.heap.size,5,none⟩ (.slice p3 f.blocks[k].fin.to.length m3)):=(HB.out.trans (HB9.out.mono (by omega))).setCell (p:=⟨wo.heap.size,5,none⟩) (by show _≤wo.heap.size;omega) _
      exact h1.trans ((V5 _ g _ _ _ _ _ _ _).below (by rw[Go.Deep.nblk_setCell];omega) (fun i e=>by omega))
     go_roundg (f.blocks.length - (k+1))
     case measure=>omega
     case rel=>exact⟨k+1,_,by omega,rfl,by go_num,hput,fun i hi=>by
      rcases hi with h|h|h|h
      ·exact HL.out i h
      ·have:=(HLp.out i h).1;omega
      ·have:=HLi.out i h;omega
      have:=HL8.out i h;omega,hbf⟩
    have haH:j<(xR j f.blocks[k].list).length:=by rw[je];exact hjl
    obtain⟨ge,cce,cse,Te,hve,hge,heA,heB,hxe,heC,heD,haP,heE,⟨cure,hbI⟩,pute⟩:=HOj.out.focus (Qw qH _) (by omega) haH
    rw[jl haH]at hxe
    unfold xN at hxe
    rw[if_neg (by simp)]at hxe
    obtain⟨ve,rfl,y1,y2,y3,y4,y5,hse⟩:=(show InsR w cse f.blocks[k].list[j]from hxe)
    obtain⟨qe,ce,rfl,ae,_,ze⟩:=hse.outC
    have hpe:p2=some ⟨ge,0,none⟩:=by injection hve
    subst hpe
    have e0:=haP 0 (by omega)
    have e1:=haP 1 (by omega)
    have e2:=haP 2 (by omega)
    have e3:=haP 3 (by omega)
    have e4:=haP 4 (by omega)
    have e5:=haP 5 (by omega)
    have e6:=haP 6 (by omega)
    have e7:=haP 7 (by omega)
    simp only[List.getElem?_cons_zero,List.getElem?_cons_succ,Nat.add_zero]at e0 e1 e2 e3 e4 e5 e6 e7
    have HE:=q7 (And.intro ae (And.intro hse.bdC ze))
    have HRe:=q7 (show InsR w [.int .i64 f.blocks[k].list[j].op,.int .i64 f.blocks[k].list[j].dst,.bool f.blocks[k].list[j].ar,.int .i64 f.blocks[k].list[j].an,.bool f.blocks[k].list[j].br,.int .i64 f.blocks[k].list[j].bn,.int .i64 f.blocks[k].list[j].fn,.slice qe f.blocks[k].list[j].args.length ce] f.blocks[k].list[j] from⟨_,rfl,y1,y2,y3,y4,y5,hse⟩)
    have hdA:=q7 pute
    have HTe:=q7 (And.intro heC heD)
    have hdB:=q7 hbI
    have heF:=q7 haP
    have hhL:=q7 heE
    have hhM:Wa.heap.size≤ge:=HLj.out ge heA
    clear hve hxe ae ze hse pute heC heD hbI heB haP heA
    go_wp2_with fail
    obtain⟨w3,hw3⟩:∃w3,w3=wr.alloc (.cells #[.int .i64 f.blocks[k].list[j].op,.int .i64 f.blocks[k].list[j].dst,.bool f.blocks[k].list[j].ar,.int .i64 f.blocks[k].list[j].an,.bool f.blocks[k].list[j].br,.int .i64 f.blocks[k].list[j].bn,.int .i64 f.blocks[k].list[j].fn,.slice qe f.blocks[k].list[j].args.length ce] 53):=⟨_,rfl⟩
    rw[←hw3]
    have hz4:w3.heap.size=wr.heap.size+1:=by rw[hw3];simp
    have hb4:Below wr.heap.size wr w3:=by rw[hw3];exact bZ
    have hX4:w3.heap[wo.heap.size]?=some (.cells #[.slice p1 f.blocks[k].phis.length m1,.slice (some ⟨ge,0,none⟩) f.blocks[k].list.length m2,.int .i64 f.blocks[k].fin.kind,.bool f.blocks[k].fin.onr,.int .i64 f.blocks[k].fin.onn,.slice q3 f.blocks[k].fin.to.length d3] 48 (0,0)):=(hb4.block _ xz).trans HXj.out
    have hY4:w3.heap[wr.heap.size]?=some (.cells #[.int .i64 f.blocks[k].list[j].op,.int .i64 f.blocks[k].list[j].dst,.bool f.blocks[k].list[j].ar,.int .i64 f.blocks[k].list[j].an,.bool f.blocks[k].list[j].br,.int .i64 f.blocks[k].list[j].bn,.int .i64 f.blocks[k].list[j].fn,.slice qe f.blocks[k].list[j].args.length ce] 53 (0,0)):=by rw[hw3];exact qh rfl
    have HB4:=q7 hb4
    clear hw3 hb4 xb xf e0 e1 e2 e3 e4 e5 e6 e7 heE
    obtain⟨Sp,hSp⟩:∃Sp:World→Prop,Sp=fun w'=>w'.heap[wo.heap.size]?=some (.cells #[.slice p1 f.blocks[k].phis.length m1,.slice (some ⟨ge,0,none⟩) f.blocks[k].list.length m2,.int .i64 f.blocks[k].fin.kind,.bool f.blocks[k].fin.onr,.int .i64 f.blocks[k].fin.onn,.slice q3 f.blocks[k].fin.to.length d3] 48 (0,0))∧w'.heap[wr.heap.size]?=some (.cells #[.int .i64 f.blocks[k].list[j].op,.int .i64 f.blocks[k].list[j].dst,.bool f.blocks[k].list[j].ar,.int .i64 f.blocks[k].list[j].an,.bool f.blocks[k].list[j].br,.int .i64 f.blocks[k].list[j].bn,.int .i64 f.blocks[k].list[j].fn,.slice qe f.blocks[k].list[j].args.length ce] 53 (0,0)):=⟨_,rfl⟩
    have ha6:∀w',Sp w'→(∀i,w'.cell? ⟨wo.heap.size,i,none⟩=(#[.slice p1 f.blocks[k].phis.length m1,.slice (some ⟨ge,0,none⟩) f.blocks[k].list.length m2,.int .i64 f.blocks[k].fin.kind,.bool f.blocks[k].fin.onr,.int .i64 f.blocks[k].fin.onn,.slice q3 f.blocks[k].fin.to.length d3]:Array Value)[i]?)∧(∀i,w'.cell? ⟨wr.heap.size,i,none⟩=(#[.int .i64 f.blocks[k].list[j].op,.int .i64 f.blocks[k].list[j].dst,.bool f.blocks[k].list[j].ar,.int .i64 f.blocks[k].list[j].an,.bool f.blocks[k].list[j].br,.int .i64 f.blocks[k].list[j].bn,.int .i64 f.blocks[k].list[j].fn,.slice qe f.blocks[k].list[j].args.length ce]:Array Value)[i]?)∧wo.heap.size<w'.heap.size∧wr.heap.size<w'.heap.size:=fun w' h=>by
     rw[hSp]at h
     exact⟨(blk h.1).1,(blk h.2).1,q9 h.1,q9 h.2⟩
    have hS4:Sp w3.drew:=by rw[hSp];exact⟨hX4,hY4⟩
    refine qm (S:=Sp) (by kernel_rfl) 8 ?_
    refine tkZ 0 54 (.pointer (some ⟨wo.heap.size,1,none⟩)) rfl rfl hS4 (fun w' h=>?_) ?_
    ·obtain⟨h1,h2,h3,h4⟩:=ha6 w' h
     have g1:=h1 1
     have g2:=h2 7
     clear h1 h2
     simp only[List.getElem?_toArray,List.getElem?_cons_zero,List.getElem?_cons_succ]at g1 g2
     go_simp
    refine tkZ 1 55 (.slice (some ⟨ge,0,none⟩) f.blocks[k].list.length m2) rfl rfl hS4 (fun w' h=>?_) ?_
    ·obtain⟨h1,h2,h3,h4⟩:=ha6 w' h
     have g1:=h1 1
     have g2:=h2 7
     clear h1 h2
     simp only[List.getElem?_toArray,List.getElem?_cons_zero,List.getElem?_cons_succ]at g1 g2
     go_simp
    refine tkZ 2 56 (.int .i64 j) rfl rfl hS4 (fun w' h=>?_) ?_
    ·obtain⟨h1,h2,h3,h4⟩:=ha6 w' h
     have g1:=h1 1
     have g2:=h2 7
     clear h1 h2
     simp only[List.getElem?_toArray,List.getElem?_cons_zero,List.getElem?_cons_succ]at g1 g2
     go_simp
    refine tkZ 3 57 (.pointer (some ⟨wr.heap.size,7,none⟩)) rfl rfl hS4 (fun w' h=>?_) ?_
    ·obtain⟨h1,h2,h3,h4⟩:=ha6 w' h
     have g1:=h1 1
     have g2:=h2 7
     clear h1 h2
     simp only[List.getElem?_toArray,List.getElem?_cons_zero,List.getElem?_cons_succ]at g1 g2
     go_simp
    refine tkZ 4 58 (.slice qe f.blocks[k].list[j].args.length ce) rfl rfl hS4 (fun w' h=>?_) ?_
    ·obtain⟨h1,h2,h3,h4⟩:=ha6 w' h
     have g1:=h1 1
     have g2:=h2 7
     clear h1 h2
     simp only[List.getElem?_toArray,List.getElem?_cons_zero,List.getElem?_cons_succ]at g1 g2
     go_simp
    refine qk (i:=5) (by kernel_rfl) (qt 59 rfl rfl rfl (by go_simp) (vy f.blocks[k].list[j].args qe ce w3.drew (HE.out.2.2.mono ((hez.out.trans (HB4.out.mono (by omega))).drew) (by omega) fun _ _ g=>g) HE.out.1 HE.out.2.1) ?_)
    rintro e w5 ⟨pe,me,rfl,⟨Se,hSe,hLe⟩,hb5⟩
    have hb5:Below w3.heap.size w3 w5:=(Below.refl _ w3).drew.trans hb5
    have hLe:∀k,Se k→w3.heap.size≤k:=hLe
    have haT:Sp w5:=by
     rw[hSp]
     exact⟨(hb5.block _ (q9 hX4)).trans hX4,(hb5.block _ (q9 hY4)).trans hY4⟩
    refine⟨_,rfl,haT,?_⟩
    have hz5:=hb5.size
    have HSe:=q7 hSe
    have HLe:=q7 hLe
    have HB5:=q7 (HB4.out.trans (hb5.mono (by omega)))
    clear hSe hLe hb5
    refine qk (i:=6) (by kernel_rfl) (qn 60 (.pointer (some ⟨ge,j*8,none⟩)) w5 rfl rfl rfl (by go_simp) haT ?_)
    refine qk (i:=7) (by kernel_rfl) (qn 61 (.pointer (some ⟨ge,j*8+7,none⟩)) w5 rfl rfl rfl (by go_simp) haT ?_)
    have r1:w5.cell? ⟨ge,j*8+7,none⟩=some (.slice qe f.blocks[k].list[j].args.length ce):=(World.cell?_of_block (a:=⟨ge,j*8+7,none⟩) (HB5.out.block ge hge)).trans (heF.out 7 (by omega))
    have r2:w5.frozen? ⟨ge,j*8+7,none⟩=false:=(World.frozen?_of_block (a:=⟨ge,j*8+7,none⟩) (HB5.out.block ge hge)).trans (hhL.out _)
    have r3:ge<w5.heap.size:=by omega
    refine qk (i:=8) (by kernel_rfl) (qz (w5.setCell ⟨ge,j*8+7,none⟩ (.slice pe f.blocks[k].list[j].args.length me)) rfl rfl rfl (by go_simp) (fun h=>absurd rfl h) (qB (by kernel_rfl) ?_ _))
    show Exit.inBlock 5 _ Exit.normal _ _
    have hput:=hdA.out (w5.setCell ⟨ge,j*8+7,none⟩ (.slice pe f.blocks[k].list[j].args.length me)) [.int .i64 f.blocks[k].list[j].op,.int .i64 f.blocks[k].list[j].dst,.bool f.blocks[k].list[j].ar,.int .i64 f.blocks[k].list[j].an,.bool f.blocks[k].list[j].br,.int .i64 f.blocks[k].list[j].bn,.int .i64 f.blocks[k].list[j].fn,.slice pe f.blocks[k].list[j].args.length me] (true,f.blocks[k].list[j]) Se
     (RowPut.set (RowPut.same hdB.out (HB5.out.block ge hge) heF.out) rfl (j:=7) (by omega) _) rfl (fun u hu=>by
      simp only[List.mem_cons,List.not_mem_nil,or_false]at hu
      rcases hu with rfl|rfl|rfl|rfl|rfl|rfl|rfl|rfl<;>rfl) (by rw[Go.Deep.nblk_setCell];omega) (fun i h1 h2 h3=>(Go.Deep.blk_setCell_other w5 ⟨ge,j*8+7,none⟩ _ i h3).trans (HB5.out.block i (HOj.out.inb i h1)))
     (by
      obtain⟨ve,h0,y1,y2,y3,y4,y5,_⟩:=HRe.out
      have hL9:∀i,Se i→i≠ge:=fun i hi=>by have:=HLe.out i hi;omega
      exact⟨_,rfl,y1,y2,y3,y4,y5,HSe.out.loc zT (fun _ h=>h) (fun i hi=>Go.Deep.blk_setCell_other w5 ⟨ge,j*8+7,none⟩ _ i (hL9 i hi)) (by rw[Go.Deep.nblk_setCell];omega)⟩)
     (fun i hi=>⟨.inr (by have:=HLe.out i hi;omega),by rw[Go.Deep.nblk_setCell];exact HSe.out.sl.inb i hi⟩)
    rw[kw hjl]at hput
    have hrel:SlO 53 8 (xN InsO (InsR w)) (w5.setCell ⟨ge,j*8+7,none⟩ (.slice pe f.blocks[k].list[j].args.length me)) (.slice (some ⟨ge,0,none⟩) f.blocks[k].list.length m2) (xR (j+1) f.blocks[k].list) (fun i=>Sj i∨Se i)∧(∀i,Sj i∨Se i→Wa.heap.size≤i)∧Below (Wa.heap.size) W6 (w5.setCell ⟨ge,j*8+7,none⟩ (.slice pe f.blocks[k].list[j].args.length me)):=by
     refine⟨hput,fun i hi=>?_,?_⟩
     ·rcases hi with h|h
      ·exact HLj.out i h
      have:=HLe.out i h;omega
     exact(HBj.out.trans (HB5.out.mono (by omega))).setCell hhM _
    have ha7:=q7 hrel
    clear hrel hput r1 r2 haT hS4 hX4 hY4
    go_wp2_with fail
    go_roundg (f.blocks[k].list.length - (j+1))
    case measure=>omega
    case rel=>exact⟨j+1,_,by omega,rfl,by go_num,ha7.out.1,ha7.out.2.1,ha7.out.2.2⟩

end Go.Proofs.YtecdphhdmjmmnaaGreatDoor
namespace Go.Proofs
open Go.Shelf Go.Sort Go.RowKit Go.Lib
def Tryz.srtf_ren:Go.Shelf.Ren:=⟨fun|6=>103|15=>114|14=>127|28=>143|29=>144|20=>152|21=>153|22=>154|23=>155|24=>156|25=>157|26=>158|27=>159|46=>170|47=>163|48=>164|49=>171|50=>172|57=>175|n=>n,fun|22=>152|24=>154|25=>156|3=>3|39=>168|0=>0|53=>202|55=>204|4=>4|46=>195|45=>194|50=>191|5=>5|9=>9|66=>221|70=>225|76=>230|77=>231|n=>n,fun n=>n⟩
theorem Tryz.srtf:SlLaysF0.n6 Tryz.prog Tryz.srtf_ren where
 mixed:=by kernel_rfl
 f6 := ⟨"slices.SortFunc[[]turnery/tidy.from,turnery/tidy.from]", by decide, Tryz.func103.trans (congrArg some (by kernel_rfl))⟩
 f14 := ⟨"slices.pdqsortCmpFunc[turnery/tidy.from]", by decide, Tryz.func127.trans (congrArg some (by kernel_rfl))⟩
 f15:=Tryz.func114.trans (congrArg some (by kernel_rfl))
 f20 := ⟨"slices.insertionSortCmpFunc[turnery/tidy.from]", by decide, Tryz.func152.trans (congrArg some (by kernel_rfl))⟩
 f21 := ⟨"slices.heapSortCmpFunc[turnery/tidy.from]", by decide, Tryz.func153.trans (congrArg some (by kernel_rfl))⟩
 f22 := ⟨"slices.breakPatternsCmpFunc[turnery/tidy.from]", by decide, Tryz.func154.trans (congrArg some (by kernel_rfl))⟩
 f23 := ⟨"slices.choosePivotCmpFunc[turnery/tidy.from]", by decide, Tryz.func155.trans (congrArg some (by kernel_rfl))⟩
 f24 := ⟨"slices.reverseRangeCmpFunc[turnery/tidy.from]", by decide, Tryz.func156.trans (congrArg some (by kernel_rfl))⟩
 f25 := ⟨"slices.partialInsertionSortCmpFunc[turnery/tidy.from]", by decide, Tryz.func157.trans (congrArg some (by kernel_rfl))⟩
 f26 := ⟨"slices.partitionEqualCmpFunc[turnery/tidy.from]", by decide, Tryz.func158.trans (congrArg some (by kernel_rfl))⟩
 f27 := ⟨"slices.partitionCmpFunc[turnery/tidy.from]", by decide, Tryz.func159.trans (congrArg some (by kernel_rfl))⟩
 f28:=Tryz.func143.trans (congrArg some (by kernel_rfl))
 f29:=Tryz.func144.trans (congrArg some (by kernel_rfl))
 f46 := ⟨"slices.siftDownCmpFunc[turnery/tidy.from]", by decide, Tryz.func170.trans (congrArg some (by kernel_rfl))⟩
 f47:=Tryz.func163.trans (congrArg some (by kernel_rfl))
 f48:=Tryz.func164.trans (congrArg some (by kernel_rfl))
 f49 := ⟨"slices.medianAdjacentCmpFunc[turnery/tidy.from]", by decide, Tryz.func171.trans (congrArg some (by kernel_rfl))⟩
 f50 := ⟨"slices.medianCmpFunc[turnery/tidy.from]", by decide, Tryz.func172.trans (congrArg some (by kernel_rfl))⟩
 f57 := ⟨"slices.order2CmpFunc[turnery/tidy.from]", by decide, Tryz.func175.trans (congrArg some (by kernel_rfl))⟩
 t0:=Tryz.underlying0
 a0:=Tryz.isAgg0
 z0:=Tryz.sizeOf0
 v0:=Tryz.zeroValue0
 t3:=Tryz.underlying3
 a3:=Tryz.isAgg3
 z3:=Tryz.sizeOf3
 v3:=Tryz.zeroValue3
 t4:=Tryz.underlying4
 a4:=Tryz.isAgg4
 z4:=Tryz.sizeOf4
 v4:=Tryz.zeroValue4
 t5:=Tryz.underlying5
 a5:=Tryz.isAgg5
 z5:=Tryz.sizeOf5
 v5:=Tryz.zeroValue5
 t9:=Tryz.underlying9
 a9:=Tryz.isAgg9
 z9:=Tryz.sizeOf9
 v9:=Tryz.zeroValue9
 t22:=Tryz.underlying152
 a22:=Tryz.isAgg152
 z22:=Tryz.sizeOf152
 v22:=Tryz.zeroValue152
 t25:=Tryz.underlying156
 a25:=Tryz.isAgg156
 z25:=Tryz.sizeOf156
 v25:=Tryz.zeroValue156
 t39:=Tryz.underlying168
 a39:=Tryz.isAgg168
 z39:=Tryz.sizeOf168
 v39:=Tryz.zeroValue168
 t45:=Tryz.underlying194
 a45:=Tryz.isAgg194
 z45:=Tryz.sizeOf194
 v45:=Tryz.zeroValue194
 t46:=Tryz.underlying195
 a46:=Tryz.isAgg195
 z46:=Tryz.sizeOf195
 v46:=Tryz.zeroValue195
 t50:=Tryz.underlying191
 a50:=Tryz.isAgg191
 z50:=Tryz.sizeOf191
 v50:=Tryz.zeroValue191
 t53:=Tryz.underlying202
 a53:=Tryz.isAgg202
 z53:=Tryz.sizeOf202
 v53:=Tryz.zeroValue202
 t55:=Tryz.underlying204
 a55:=Tryz.isAgg204
 z55:=Tryz.sizeOf204
 v55:=Tryz.zeroValue204
 t66:=Tryz.underlying221
 a66:=Tryz.isAgg221
 z66:=Tryz.sizeOf221
 v66:=Tryz.zeroValue221
 t70:=Tryz.underlying225
 a70:=Tryz.isAgg225
 z70:=Tryz.sizeOf225
 v70:=Tryz.zeroValue225
 t76:=Tryz.underlying230
 a76:=Tryz.isAgg230
 z76:=Tryz.sizeOf230
 v76:=Tryz.zeroValue230
 t77:=Tryz.underlying231
 a77:=Tryz.isAgg231
 z77:=Tryz.sizeOf231
 v77:=Tryz.zeroValue231
end Go.Proofs
namespace Go.Proofs.YtecdphhdmjmmnaaGreatDoor
open Go.RowKit Go.Shelf Go.Sort

abbrev FrmL:=Int×(Bool×Int)
def FrmO:ElemO FrmL:=fun _ cs x _=>cs=[.int .i64 x.1,.bool x.2.1,.int .i64 x.2.2]∧(0≤x.1∧x.1<1000000)∧I64 x.2.2
theorem Zj:jN FrmO:=fun _ _ _ _ _ h _ _=>h
abbrev FrmS:={ x:FrmL // 0≤x.1∧x.1<1000000 }
instance:Inhabited FrmS:=⟨⟨(0,(false,0)),by decide⟩⟩
def Vn (x:FrmS):List Value:=[.int .i64 x.1.1,.bool x.1.2.1,.int .i64 x.1.2.2]
def cmpF (x y:FrmS):Int:=x.1.1 - y.1.1
theorem ltF (x y:FrmS):ltOf cmpF x y=decide (x.1.1<y.1.1):=by
 unfold ltOf cmpF
 rw[decide_eq_decide]
 omega
theorem swoF:SWO (ltOf cmpF) where
 irrefl x:=by rw[ltF];simp
 trans x y z h1 h2:=by rw[ltF]at *;simp at *;omega
 ntrans x y z h1 h2:=by rw[ltF]at *;simp at *;omega

theorem cmpF_any (x y:FrmS) (W:World):Calls Tryz.prog 104 #[.agg (Vn x).toArray,.agg (Vn y).toArray] W fun e w'=>e = .returned (.int .i64 (cmpF x y))∧∃q os',w'=grow (W.drewN q) os':=by
 obtain⟨⟨x1,x2,x3⟩,hx⟩:=x
 obtain⟨⟨y1,y2,y3⟩,hy⟩:=y
 simp only at hx hy
 have hw:IntKind.i64.wrap (x1 - y1)=x1 - y1:=by rw[IntKind.wrap_i64];omega
 unfold Vn cmpF
 go_enter Tryz.func104,Tryz.ntmps104
 go_wp2
 go_ret
 exact⟨rfl,0,_,by rw[alloc_eq_grow,alloc_eq_grow,grow_grow];rfl⟩

theorem RowAt.sorted {w:World} {e:TypeId} {g cap size:Nat} {cur:Array Value} (h:RowAt w e g cap size cur) {l:List Value} (hl:l.length≤cap*size) (q:Nat) (os:Array Obj) :
  (∃cur',RowAt (grow (putRow id (Sort.ahead w q) g 0 l.toArray) os) e g cap size cur'∧cur'.toList.take l.length=l)∧Kept (fun k=>k=g) w (grow (putRow id (Sort.ahead w q) g 0 l.toArray) os):=by
 have hg:=(Array.getElem?_eq_some_iff.1 h.1).1
 refine⟨⟨putCells id 0 l.toArray cur,⟨?_,by simpa[putCells]using h.2.1,h.2.2⟩,?_⟩,⟨rfl,rfl,rfl,?_,fun k hk hn=>?_⟩⟩
 ·unfold grow putRow mapBlock Sort.ahead
  simp only
  rw[Array.getElem?_append_left (by simpa using hg),Array.getElem?_modify,if_pos rfl,h.1]
  rfl
 ·refine List.ext_getElem? fun j=>?_
  rw[List.getElem?_take,Array.getElem?_toList]
  by_cases hj:j<l.length
  ·have hjc:j<cur.size:=by have:=h.2.1;omega
   rw[if_pos hj]
   simp only[putCells,Array.getElem?_mapIdx,Array.getElem?_eq_getElem hjc,Option.map_some]
   rw[if_pos (by simp;omega),List.getElem?_eq_getElem hj]
   simp[getElem!_pos,hj]
  rw[if_neg hj,List.getElem?_eq_none (by omega)]
 ·unfold grow putRow mapBlock Sort.ahead
  simp
 unfold grow putRow mapBlock Sort.ahead
 simp only
 rw[Array.getElem?_append_left (by simpa using hk),Array.getElem?_modify,if_neg (fun e=>hn e.symm)]

theorem ZY {α:Type} {f:α→List Value}:∀{xs:List α} {cs:Nat→List Value},(∀i (h:i<xs.length),cs i=f xs[i])→(List.range xs.length).flatMap cs=xs.flatMap f
 | [],_,_=>rfl
 | x::xs,cs,h=>by
  rw[List.length_cons,List.range_succ_eq_map,List.flatMap_cons,h 0 (by simp)]
  have ih:=ZY (xs:=xs) (cs:=fun i=>cs (i+1)) fun i hi=>by
   have:=h (i+1) (by simpa using hi)
   simpa using this
  unfold List.flatMap at ih ⊢
  rw[List.map_map]
  rw[show(List.range xs.length).map (cs∘Nat.succ)=(List.range xs.length).map (fun i=>cs (i+1))from rfl,ih]
  rfl
theorem Vo {α:Type} [Inhabited α] (enc:α→List Value) (k:Nat) (hk0:0<k) (hk:∀x,(enc x).length=k) (d:Array α):(flatK enc k d).toList=d.toList.flatMap enc:=by
 have e1:(List.range d.toList.length).flatMap (fun i=>enc d[i]!)=d.toList.flatMap enc:=ZY fun i hi=>by
  rw[getElem!_pos d i (by simpa using hi)]
  rfl
 rw[←e1]
 refine List.ext_getElem? fun t=>?_
 rcases Nat.lt_or_ge t (d.size*k)with g|g
 ·have hi:t / k<d.toList.length:=Nat.div_lt_of_lt_mul (by rw[Nat.mul_comm];simpa using g)
  have hj:=Nat.mod_lt t hk0
  have e:t=t / k*k+t % k:=by rw[Nat.mul_comm];exact(Nat.div_add_mod t k).symm
  have h2:=zm (cs:=fun i=>enc d[i]!) (size:=k) d.toList.length (fun i _=>hk _) _ _ hi hj
  rw[←e]at h2
  rw[h2,Array.getElem?_toList,Array.getElem?_eq_getElem (by simpa using g),←getElem!_pos (flatK enc k d) t (by simpa using g),get_flatK enc k d t g]
  rw[List.getElem?_eq_getElem (by rw[hk];exact hj),←getElem!_pos (enc d[t / k]!) (t % k) (by rw[hk];exact hj)]
 rw[List.getElem?_eq_none (by simpa using g),List.getElem?_eq_none (by rw[qI (size:=k) _ (fun i _=>hk _)];simpa using g)]
def v8 (x:FrmL):List Value:=[.int .i64 x.1,.bool x.2.1,.int .i64 x.2.2]
def FrmH (x:FrmL):Prop:=(0≤x.1∧x.1<1000000)∧I64 x.2.2
theorem Zk (x:FrmL):∀u∈v8 x,u.oneCell'=true:=by
 intro u hu
 simp only[v8,List.mem_cons,List.not_mem_nil,or_false]at hu
 rcases hu with rfl|rfl|rfl<;>rfl
theorem SlO.rowF {w:World} {v:Value} {xs:List FrmL} {S:Blks} (h:SlO 154 3 FrmO w v xs S):w.ownsRow 0 154 3 v xs.length (xs.flatMap v8)∧(∀x∈xs,FrmH x)∧(∀g,v.ownBlock=some g→S g)∧InB w S:=by
 obtain⟨cs,T,h⟩:=h
 refine⟨?_,fun x hx=>?_,h.blk,h.inb⟩
 ·have:=h.own
  rwa [ZY (f:=v8) fun i hi=>(h.el i hi).1]at this
 obtain⟨i,hi,rfl⟩:=List.getElem_of_mem hx
 exact⟨(h.el i hi).2.1,(h.el i hi).2.2⟩
theorem SlO.ofRowF {w:World} {v:Value} {xs:List FrmL} {S:Blks} (h:w.ownsRow 0 154 3 v xs.length (xs.flatMap v8)) (hx:∀x∈xs,FrmH x) (hv:∀g,v.ownBlock=some g→S g) (hS:InB w S):SlO 154 3 FrmO w v xs S:=by
 refine⟨fun i=>v8 (xs.getD i (0,false,0)),fun _ _=>False,⟨?_,fun _ _=>rfl,fun i _=>Zk _,fun i hi=>⟨?_,(hx _ (List.getElem_mem hi)).1,(hx _ (List.getElem_mem hi)).2⟩,fun _ _ _ _ _ _ a _=>a,fun _ _ _ _ a=>a,hv,fun _ _ _ a=>a.elim,hS⟩⟩
 ·rw[ZY (f:=v8) fun i hi=>by simp[List.getD,hi]]
  exact h
 simp[v8,List.getD,hi]
theorem Vp {w:World} {e:TypeId} {size:Nat} {v:Value} {n:Nat} {xs:List Value} (h:w.ownsRow 0 e size v n xs) (hn:0<n):∃g cap cur,v = .slice (some ⟨g,0,none⟩) n cap∧RowAt w e g cap size cur∧n≤cap∧cur.toList.take (n*size)=xs:=by
 rcases h.2 with⟨_,h2⟩|⟨g,cap,cur,hv,_,hg,h1,h2,h3,h4⟩
 ·omega
 exact⟨g,cap,cur,hv,⟨hg,h3,h2⟩,h1,h4⟩

theorem XT (p:Option Addr) (cap:Nat) (xs:List FrmL) (w:World) (S:Blks) (h:SlO 154 3 FrmO w (.slice p xs.length cap) xs S) (hlen:xs.length≤100000) :
  Calls Tryz.prog 103 #[.slice p xs.length cap,.func (.func 104) #[] #[]] w fun e w'=>e = .returned (.tuple #[])∧(∃ys:List FrmL,ys.Perm xs∧ys.Pairwise (fun a b=>a.1≤b.1)∧SlO 154 3 FrmO w' (.slice p xs.length cap) ys S)∧Kept S w w':=by
 obtain⟨hrow,hx,hSb,hIn⟩:=h.rowF
 rcases Nat.eq_zero_or_pos xs.length with h0|h0
 ·rw[h0]
  have hxs:=List.length_eq_zero_iff.1 h0
  subst hxs
  refine(AnyF.slices_SortFunc_none Tryz.srtf p cap _ w).mono ?_
  rintro e w' ⟨rfl,rfl⟩
  exact⟨rfl,⟨[],List.Perm.refl _,.nil,h⟩,Kept.refl _ _⟩
 obtain⟨g,c',cur,hv,hr,hn,htk⟩:=Vp hrow h0
 injection hv with hp _ hc
 subst hp hc
 obtain⟨d,hd⟩:∃d:List FrmS,d.map (·.1)=xs:=⟨xs.attach.map fun x=>⟨x.1,(hx _ x.2).1⟩,by rw[List.map_map];exact List.attach_map_subtype_val xs⟩
 have hdl:d.length=xs.length:=by rw[←hd];simp
 have hfl:∀d:List FrmS,d.flatMap Vn=(d.map (·.1)).flatMap v8:=fun d=>by
  rw[List.flatMap_map]
  rfl
 have hH:HoldsK Vn 3 w g 0 d.toArray:=by
  intro j hj
  rw[size_flatK]at hj
  have hj2:j<xs.length*3:=by rw[←hdl];simpa using hj
  have hjc:j<cur.size:=by rw[hr.2.1];omega
  have e1:(flatK Vn 3 d.toArray)[j]! = cur[j]:=by
   rw[getElem!_pos _ j (by rw[size_flatK];exact hj),←Array.getElem_toList]
   have e2:(flatK Vn 3 d.toArray).toList=cur.toList.take (xs.length*3):=by
    rw[Vo Vn 3 (by omega) (fun _=>rfl),htk,hfl,hd]
   have e3:(flatK Vn 3 d.toArray).toList[j]?=cur.toList[j]?:=by
    rw[e2,List.getElem?_take,if_pos hj2]
   rw[List.getElem?_eq_getElem (by simpa using hj),List.getElem?_eq_getElem (by simpa using hjc)]at e3
   exact Option.some.inj e3
  rw[Nat.zero_add,e1,hr.cell,Array.getElem?_eq_getElem hjc]
  exact⟨rfl,(blk hr.1).2 j⟩
 have eg:∀args w,(callFunc 104 args).run Tryz.prog w = .ok (.enter 104 args) w:=enters_of Tryz.func104 (by kernel_rfl) rfl
 have hcon:=AnyQ.slices_SortFunc Tryz.srtf 3 Tryz.isAgg154 Tryz.sizeOf154 Vn (fun _=>rfl) (fun x=>Zk x.1) cmpF swoF 104 #[] g 0 cap d.toArray w eg (fun m os dk _ x y=>cmpF_any x y _) hH (Array.getElem?_eq_some_iff.1 hr.1).1 (by simp;omega)
 have hds:d.toArray.size=xs.length:=by simpa using hdl
 rw[hds]at hcon
 refine hcon.mono ?_
 rintro e w' ⟨rfl,d',n,os,hpm,hso,rfl⟩
 have heG:d'.size=xs.length:=by rw[hpm.1];exact hds
 have hperm:d'.toList.Perm d:=by
  have:=hpm.2.2
  rwa [show d'.extract 0 xs.length=d' by rw[←heG];exact Array.extract_size,show d.toArray.extract 0 xs.length=d.toArray by rw[←hds];exact Array.extract_size]at this
 have hys:(d'.toList.map (·.1)).Perm xs:=by rw[←hd];exact hperm.map _
 have hyl:(d'.toList.map (·.1)).length=xs.length:=by simpa using heG
 obtain⟨⟨cur',hr',hoZ⟩,hK⟩:=hr.sorted (l:=(flatK Vn 3 d').toList) (by simp[heG];omega) n os
 have hcl:(flatK Vn 3 d').toList=(d'.toList.map (·.1)).flatMap v8:=by rw[Vo Vn 3 (by omega) (fun _=>rfl),hfl]
 refine⟨rfl,⟨d'.toList.map (·.1),hys,?_,?_⟩,hK.mono fun i _ e=>hSb i (by rw[e];rfl)⟩
 ·rw[List.pairwise_map,List.pairwise_iff_getElem]
  intro i j hi hj hij
  have hi':i<d'.size:=by simpa using hi
  have hj':j<d'.size:=by simpa using hj
  have:=hso i j (Nat.zero_le _) hij (by omega)
  rw[getElem!_pos d' j hj',getElem!_pos d' i hi',ltF]at this
  simp only[decide_eq_false_iff_not,Int.not_lt]at this
  simpa using this
 refine SlO.ofRowF ?_ (fun x hx'=>hx x (hys.subset hx')) hSb (hIn.mono hK.size)
 rw[hyl]
 refine hr'.own hn (by rw[←hcl];simp[heG]) ?_
 rw[←hcl]
 have hl3:(flatK Vn 3 d').toList.length=xs.length*3:=by simp[heG]
 rw[←hl3]
 exact hoZ
end Go.Proofs.YtecdphhdmjmmnaaGreatDoor
