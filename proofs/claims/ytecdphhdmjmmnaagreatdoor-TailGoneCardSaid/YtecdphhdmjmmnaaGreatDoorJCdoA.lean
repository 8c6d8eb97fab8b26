/-
  Plain: the unit without the functions that main does not reach.
-/
import Derived.Test.YtecdphhdmjmmnaaGreatDoorJCopC
import Derived.RangeFuncWrites
set_option maxRecDepth 100000
set_option maxHeartbeats 16000000
namespace Go.Proofs.YtecdphhdmjmmnaaGreatDoor
open Go.RowKit Go.Shelf

theorem JM:(Tryz.prog.info? 68).map (fun i=>(i.zero,i.size,i.bytes))=some (some (.agg #[.string { data:=#[] },.int .i64 0,.slice none 0 0]),3,48):=by kernel_rfl
theorem JN:(Tryz.prog.info? 37).map (fun i=>(i.zero,i.size,i.bytes))=some (some (.agg #[.string { data:=#[] },.int .i64 0,.int .i64 0,.slice none 0 0]),4,56):=by kernel_rfl
def UniO:ElemO UniL:=fun w cs x S=>∃v1 v2 S1 S2,cs=[v1,v2]∧SlQ 68 3 48 GloO w v1 x.globals S1∧SlQ 37 4 56 FunO w v2 x.funcs S2∧Apart S1 S2∧(∀k,S1 k→S k)∧∀k,S2 k→S k
theorem UniO.read {w:World} {cs:List Value} {x:UniL} {S:Blks} (h:UniO w cs x S):UniR w cs x:=by
 obtain⟨v1,v2,S1,S2,h0,h1,h2,_⟩:=h
 exact⟨v1,v2,h0,h1.read xF (by omega) fun _ _ _ h=>h.read,h2.read xl (by omega) fun _ _ _ h=>h.read⟩

theorem copy_any (u:UniL) (q1 q2:Option Addr) (e1 e2:Nat) (w:World) (hG:SlF w 3 48 (GloR w) (.slice q1 u.globals.length e1) u.globals) (hF:SlF w 4 56 (FunR w) (.slice q2 u.funcs.length e2) u.funcs) :
  Calls Tryz.prog 21 #[.agg #[.slice q1 u.globals.length e1,.slice q2 u.funcs.length e2]] w fun e w'=>(∃p1 c1 p2 c2,e = .returned (.agg #[.slice p1 u.globals.length c1,.slice p2 u.funcs.length c2])∧
   ∃S,UniO w' [.slice p1 u.globals.length c1,.slice p2 u.funcs.length c2] u S∧LoB w.heap.size S)∧Below w.heap.size w w':=by
 obtain⟨iG,k1,k2,k3,k4⟩:=info_parts JM
 obtain⟨iF,l1,l2,l3,l4⟩:=info_parts JN
 have hlg:u.globals.length*48≤140737488351232:=hG.bdC
 have hlf:u.funcs.length*56≤140737488351232:=hF.bdC
 have hGs:SliceAt w 3 (GloR w) q1 u.globals:=by
  obtain⟨p,c,e,_,_,h⟩:=hG.outC
  cases e
  exact h
 have hFs:SliceAt w 4 (FunR w) q2 u.funcs:=by
  obtain⟨p,c,e,_,_,h⟩:=hF.outC
  cases e
  exact h
 have HGs:=q7 hGs
 have HFs:=q7 hFs
 have HBd:=q7 (And.intro hG.bdC hF.bdC)
 clear hG hF hGs hFs
 go_enter Tryz.func21,Tryz.ntmps21
 go_wp2_with fail
 obtain⟨W0,hW0⟩:∃W0,W0=((w.alloc (.cells #[.slice q1 u.globals.length e1,.slice q2 u.funcs.length e2] 25)).alloc (.cells #[.slice none 0 0,.slice none 0 0] 25)).alloc (.cells #[.slice none 0 0,.slice none 0 0] 25):=⟨_,rfl⟩
 rw[←hW0]
 have hz0:W0.heap.size=w.heap.size+1+1+1:=by rw[hW0];simp
 have HB0:Hid (Below w.heap.size w W0):=q7 (by rw[hW0];exact bZ)
 have HA:Hid (W0.heap[w.heap.size]?=some (.cells #[.slice q1 u.globals.length e1,.slice q2 u.funcs.length e2] 25 (0,0))):=q7 (by rw[hW0];exact qj (qj (qh rfl)))
 have HZ:Hid (W0.heap[w.heap.size+1]?=some (.cells #[.slice none 0 0,.slice none 0 0] 25 (0,0))):=q7 (by rw[hW0];exact qj (qh (by simp)))
 have HO0:Hid (W0.heap[w.heap.size+1+1]?=some (.cells #[.slice none 0 0,.slice none 0 0] 25 (0,0))):=q7 (by rw[hW0];exact qh (by simp))
 clear hW0
 go_loopw [12] (fun i wr=>∃(k:Nat) (v:Value),k≤u.globals.length∧i = .int .i64 k∧(∃S,SlO 68 3 GloO wr v (u.globals.take k) S∧LoB W0.heap.size S)∧wr.heap[w.heap.size+1+1]?=some (.cells #[v,.slice none 0 0] 25 (0,0))∧Kept (fun k=>k=w.heap.size+1+1) W0 wr) (fun i _=>u.globals.length - (intOf i).toNat)
 case atStart=>exact⟨0,.slice none 0 0,by omega,rfl,⟨fun _=>False,SlO.nil _ _ _ _ (fun _ h=>h.elim),fun _ h=>h.elim⟩,HO0.out,Kept.refl _ _⟩
 case round=>
  obtain⟨k,v,hk,rfl,⟨S,hO,hL⟩,hA,hK⟩:=hrel
  obtain⟨p,c,hv,_⟩:=hO.val
  rw[List.length_take_of_le hk]at hv
  subst hv
  have HO:=q7 hO
  have HL:=q7 hL
  have HK:=q7 hK
  have HA1:=q7 hA
  have hsz:=hK.size
  have HBw:Hid (Below w.heap.size w wr):=HB0.out.trans (hK.below (by omega) (fun _ e=>by omega))
  clear hO hL hK hA
  by_cases hlt:k<u.globals.length
  ·obtain⟨bp,op,cs,hp,_,hc,b0,rfl,b3,b4,b5⟩:=HGs.out.get hlt
   subst hp
   obtain⟨qi,di,rfl,hq0,_,hql,hqs⟩:=b5
   have hc0:=hc 0 (by omega)
   have hbp:=q8 hc0
   have c0:=(HBw.out.cell (p:=⟨bp,_,none⟩) hbp).trans hc0
   have c1:=(HBw.out.cell (p:=⟨bp,_,none⟩) hbp).trans (hc 1 (by omega))
   have c2:=(HBw.out.cell (p:=⟨bp,_,none⟩) hbp).trans (hc 2 (by omega))
   simp only[List.getElem?_cons_zero,List.getElem?_cons_succ,Nat.add_zero]at c0 c1 c2
   have HQ:=q7 (And.intro hq0 (And.intro hql (And.intro hqs (And.intro b3 b4))))
   clear hc hc0 b3 b4 hq0 hql hqs
   go_wp2_with fail
   refine(vj u.globals[k].init qi di _ (HQ.out.2.2.1.mono (HBw.out.trans bZ) (by omega) fun _ _ g=>g) HQ.out.1 HQ.out.2.1).mono ?_
   rintro e w5 ⟨p',c',rfl,⟨S2,hS2,hL2⟩,hb5⟩
   have hr5:Below wr.heap.size wr w5:=Below.trans bZ (hb5.mono (by simp))
   have hu:=qg hb5 (k:=wr.heap.size) (by simp) (qm wr _)
   obtain⟨hu0,hu1⟩:=blk hu
   have zu:=(Array.getElem?_eq_some_iff.1 hu).1
   have hoz:=q9 HA1.out
   have hA5:=qg hr5 (k:=w.heap.size+1+1) hoz HA1.out
   have ho0:w5.cell? ⟨w.heap.size+1+1,0,none⟩=some (.slice p k c):=(blk hA5).1 0
   have hof:=(blk hA5).2
   have zo:=q9 hA5
   have HA5:=q7 hA5
   have HU5:=q7 hu
   have hL2':∀k,S2 k→wr.heap.size+1≤k:=fun k h=>by have:=hL2 k h;simpa using this
   have HS2:=q7 hS2
   have HL2:=q7 hL2'
   have HR5:=q7 hr5
   have hjB:=hr5.size
   have hne:w.heap.size+1+1≠wr.heap.size:=by omega
   clear hb5 hr5 hu hS2 hL2 hL2' hA5
   have hN5:¬ S wr.heap.size:=fun h=>by have:=HO.out.inb _ h;omega
   have hN2:¬ S2 wr.heap.size:=fun h=>by have:=HL2.out _ h;omega
   have HO5:=q7 ((HO.out.below xF HR5.out).set_alloc xF (n:=wr.heap.size) (j:=2) hN5 (.slice p' u.globals[k].init.length c') (.cells #[.string u.globals[k].name,.int .i64 u.globals[k].size,.slice p' u.globals[k].init.length c'] 68))
   have HS5:=q7 (HS2.out.set_alloc qX (n:=wr.heap.size) (j:=2) hN2 (.slice p' u.globals[k].init.length c') (.cells #[.string u.globals[k].name,.int .i64 u.globals[k].size,.slice p' u.globals[k].init.length c'] 68))
   have hA8:((w5.setCell ⟨wr.heap.size,2,none⟩ (.slice p' u.globals[k].init.length c')).alloc (.cells #[.string u.globals[k].name,.int .i64 u.globals[k].size,.slice p' u.globals[k].init.length c'] 68)).heap[w.heap.size+1+1]?=some (.cells #[.slice p k c,.slice none 0 0] 25 (0,0)):=
    qj ((Go.Deep.blk_setCell_other w5 ⟨wr.heap.size,2,none⟩ _ (w.heap.size+1+1) hne).trans HA5.out)
   have HA8:=q7 hA8
   clear hN5 hN2 hA8
   go_wp2_with (at_builtin;refine qF _ rfl _ _ 22 rfl 68 iG _ 3 48 Tryz.underlying22 k1 k2 k3 k4 rfl (by decide) xF rfl HO5.out ⟨w5.heap.size,0,none⟩ 1 [.string u.globals[k].name,.int .i64 u.globals[k].size,.slice p' u.globals[k].init.length c'] u.globals[k] rfl rfl ?hn ?ho (T:=S2) ⟨_,rfl,HQ.out.2.2.2.1,HQ.out.2.2.2.2,HS5.out⟩ ?ha ?ht ?hm ?hb ?_)
   case hn=>exact x8 _ _ _ (by simp[World.setCell])
   case ho=>intro u hu;simp only[List.mem_cons,List.not_mem_nil,or_false]at hu;rcases hu with rfl|rfl|rfl<;>rfl
   case ha=>exact fun k h1 h2=>by have:=HO.out.inb k h1;have:=HL2.out k h2;omega
   case ht=>exact HS2.out.sl.inb.set_alloc _ _ _
   case hm=>unfold maxLen;simp;omega
   case hb=>simp;omega
   intro v2 w8 ⟨S',hO8,hsub,hK8⟩
   obtain⟨pv,cv,hv2,_⟩:=hO8.val
   have hv3:v2 = .slice pv (k+1) cv:=by rw[hv2];congr 1;simp;omega
   clear hv2
   subst hv3
   have hSn:∀i,i<W0.heap.size→¬ S i:=fun i hi h=>by have:=HL.out i h;omega
   have hA9:=(hK8.block (w.heap.size+1+1) (q9 HA8.out) (hSn _ (by omega))).trans HA8.out
   have ho0:w8.cell? ⟨w.heap.size+1+1,0,none⟩=some (.slice p k c):=(blk hA9).1 0
   have hof:=(blk hA9).2
   have zo:=q9 hA9
   have hrel:(∃S,SlO 68 3 GloO (w8.setCell ⟨w.heap.size+1+1,0,none⟩ (.slice pv (k+1) cv)) (.slice pv (k+1) cv) (u.globals.take (k+1)) S∧LoB W0.heap.size S)∧(w8.setCell ⟨w.heap.size+1+1,0,none⟩ (.slice pv (k+1) cv)).heap[w.heap.size+1+1]?=some (.cells #[.slice pv (k+1) cv,.slice none 0 0] 25 (0,0))∧Kept (fun k=>k=w.heap.size+1+1) W0 (w8.setCell ⟨w.heap.size+1+1,0,none⟩ (.slice pv (k+1) cv)):=by
    have hlo:LoB W0.heap.size S':=fun i hi=>by
     rcases hsub i hi with h|h|h
     ·exact HL.out i h
     ·have:=HL2.out i h;omega
     simp[World.setCell]at h;omega
    refine⟨⟨S',?_,hlo⟩,?_,?_⟩
    ·have hO9:SlO 68 3 GloO w8 (.slice pv (k+1) cv) (u.globals.take (k+1)) S':=by first|exact hO8|(rw[List.take_succ_eq_append_getElem hlt];exact hO8)
     exact hO9.loc xF (fun i hi=>Go.Deep.blk_setCell_other _ _ _ _ (fun e=>by have:=hlo i hi;have e2:i=w.heap.size+1+1:=e;omega)) (by simp[World.setCell])
    ·rw[qd hA9 0 _]
     rfl
    have kA:Kept (fun k=>k=w.heap.size+1+1) W0 ((w5.setCell ⟨wr.heap.size,2,none⟩ (.slice p' u.globals[k].init.length c')).alloc (.cells #[.string u.globals[k].name,.int .i64 u.globals[k].size,.slice p' u.globals[k].init.length c'] 68)):=HK.out.trans (Kept.of_below (S:=fun _=>False) ((HR5.out.setCell (by simp) _).alloc (by simp[World.setCell];omega) _)) (fun _ _ h=>h.elim)
    exact(kA.trans hK8 (fun i hi h=>absurd h (hSn i hi))).setCell rfl _
   have ha7:=q7 hrel
   clear hA9 hO8 hsub hK8 hrel
   go_wp2_with fail
   exact⟨⟨k+1,.slice pv (k+1) cv,by omega,by go_num,ha7.out.1,ha7.out.2.1,ha7.out.2.2⟩,by simp[intOf];omega⟩
  obtain rfl:k=u.globals.length:=by omega
  rw[List.take_length]at HO
  obtain⟨W1,hW1⟩:∃W1,W1=wr:=⟨_,rfl⟩
  obtain⟨S1,hS1⟩:∃S1,S1=S:=⟨_,rfl⟩
  rw[←hW1]
  rw[←hW1,←hS1]at HO
  rw[←hW1]at HK HA1 hsz HBw
  rw[←hS1]at HL
  have HOg:=q7 HO.out
  have HLg:=q7 HL.out
  have HK1:=q7 HK.out
  have HB1:=q7 HBw.out
  have HA2:=q7 HA1.out
  have hA:=(HK1.out.block w.heap.size (by omega) (by omega)).trans HA.out
  have k1c:W1.cell? ⟨w.heap.size,1,none⟩=some (.slice q2 u.funcs.length e2):=(blk hA).1 1
  have zz1:w.heap.size<W1.heap.size:=by omega
  clear HO HL HK HBw HA1 hW1 hS1 hA
  go_wp2_with fail
  obtain⟨vg,hvg⟩:∃vg,vg=Value.slice p u.globals.length c:=⟨_,rfl⟩
  go_loopw [30] (fun i wr=>∃(k:Nat) (v:Value),k≤u.funcs.length∧i = .int .i64 k∧(∃S,SlO 37 4 FunO wr v (u.funcs.take k) S∧LoB W1.heap.size S)∧wr.heap[w.heap.size+1+1]?=some (.cells #[vg,v] 25 (0,0))∧Kept (fun k=>k=w.heap.size+1+1) W1 wr) (fun i _=>u.funcs.length - (intOf i).toNat)
  case atStart=>exact⟨0,.slice none 0 0,by omega,rfl,⟨fun _=>False,SlO.nil _ _ _ _ (fun _ h=>h.elim),fun _ h=>h.elim⟩,by rw[hvg];exact HA2.out,Kept.refl _ _⟩
  case round=>
   obtain⟨k,v,hk,rfl,⟨S,hO,hL⟩,hA,hK⟩:=hrel
   obtain⟨pf,cf,hv,_⟩:=hO.val
   rw[List.length_take_of_le hk]at hv
   subst hv
   have HO:=q7 hO
   have HL:=q7 hL
   have HK:=q7 hK
   have HA1:=q7 hA
   have hsz1:=hK.size
   have HBw:Hid (Below w.heap.size w wr):=HB1.out.trans (hK.below (by omega) (fun _ e=>by omega))
   clear hO hL hK hA
   by_cases hlt:k<u.funcs.length
   rotate_left
   ·obtain rfl:k=u.funcs.length:=by omega
    rw[List.take_length]at HO
    subst hvg
    have r0:wr.cell? ⟨w.heap.size+1+1,0,none⟩=some (.slice p u.globals.length c):=(blk HA1.out).1 0
    have r1:wr.cell? ⟨w.heap.size+1+1,1,none⟩=some (.slice pf u.funcs.length cf):=(blk HA1.out).1 1
    have hZ:=(HK.out.block (w.heap.size+1) (by omega) (by omega)).trans ((HK1.out.block (w.heap.size+1) (by omega) (by omega)).trans HZ.out)
    have rz0:wr.cell? ⟨w.heap.size+1,0,none⟩=some (.slice none 0 0):=(blk hZ).1 0
    have rz1:wr.cell? ⟨w.heap.size+1,1,none⟩=some (.slice none 0 0):=(blk hZ).1 1
    have rf:=(blk hZ).2
    have hzl:=q9 hZ
    go_wp2_with fail
    obtain⟨WF,hWF⟩:∃WF,WF=(wr.setCell ⟨w.heap.size+1,0,none⟩ (.slice p u.globals.length c)).setCell ⟨w.heap.size+1,1,none⟩ (.slice pf u.funcs.length cf):=⟨_,rfl⟩
    rw[←hWF]
    have hF1:WF.heap[w.heap.size+1]?=some (.cells #[.slice p u.globals.length c,.slice pf u.funcs.length cf] 25 (0,0)):=by
     rw[hWF,qd (qd hZ 0 _) 1 _]
     rfl
    have hFo:∀k,k≠w.heap.size+1→WF.heap[k]?=wr.heap[k]?:=fun k h1=>by
     rw[hWF]
     repeat rw[Go.Deep.blk_setCell_other _ _ _ _ (by assumption)]
    have hFs:WF.heap.size=wr.heap.size:=by rw[hWF];simp[World.setCell]
    have hFb:Below w.heap.size w WF:=by
     rw[hWF]
     exact(HBw.out.setCell (by simp) _).setCell (by simp) _
    clear hWF
    have k0:=(blk hF1).1 0
    have k1':=(blk hF1).1 1
    have hG:=(HOg.out.kept xF HK.out (fun i e hi=>by have:=HLg.out i hi;omega)).loc (w':=WF) xF (fun i hi=>hFo i (fun e=>by have:=HLg.out i hi;omega)) (by omega)
    have hF:=HO.out.loc (w':=WF) xl (fun i hi=>hFo i (fun e=>by have:=HL.out i hi;omega)) (by omega)
    refine bodyPost_ret (v:=.agg #[.slice p u.globals.length c,.slice pf u.funcs.length cf]) ?_ rfl ⟨⟨p,c,pf,cf,rfl,fun k=>S1 k∨S k,⟨_,_,S1,S,rfl,⟨hG,HBd.out.1⟩,⟨hF,HBd.out.2⟩,fun i h1 h2=>?_,fun _ h=>.inl h,fun _ h=>.inr h⟩,fun i hi=>?_⟩,hFb⟩
    ·simp[results,Tryz.results21,go_sem,k0,k1']
    ·have:=HOg.out.inb i h1;have:=HL.out i h2;omega
    rcases hi with h|h
    ·have:=HLg.out i h;omega
    have:=HL.out i h;omega
   obtain⟨bp,op,cs,hp,_,hc,b0,rfl,b3,b4,b5,b6⟩:=HFs.out.get hlt
   subst hp
   obtain⟨q3,d3,rfl,_⟩:=b6.outC
   have hc0:=hc 0 (by omega)
   have hbp:=q8 hc0
   have c0:=(HBw.out.cell (p:=⟨bp,_,none⟩) hbp).trans hc0
   have c1:=(HBw.out.cell (p:=⟨bp,_,none⟩) hbp).trans (hc 1 (by omega))
   have c2:=(HBw.out.cell (p:=⟨bp,_,none⟩) hbp).trans (hc 2 (by omega))
   have c3:=(HBw.out.cell (p:=⟨bp,_,none⟩) hbp).trans (hc 3 (by omega))
   simp only[List.getElem?_cons_zero,List.getElem?_cons_succ,Nat.add_zero]at c0 c1 c2 c3
   have HR:=q7 (And.intro b3 (And.intro b4 (And.intro b5 b6)))
   clear hc hc0 b3 b4 b5 b6
   go_wp2_with fail
   obtain⟨w1,hw1⟩:∃w1,w1=wr.alloc (.cells #[.string u.funcs[k].name,.int .i64 u.funcs[k].params,.int .i64 u.funcs[k].regs,.slice q3 u.funcs[k].blocks.length d3] 37):=⟨_,rfl⟩
   rw[←hw1]
   have hz1:w1.heap.size=wr.heap.size+1:=by rw[hw1];simp
   have HBr:Hid (Below wr.heap.size wr w1):=q7 (by rw[hw1];exact bZ)
   have HX1:Hid (w1.heap[wr.heap.size]?=some (.cells #[.string u.funcs[k].name,.int .i64 u.funcs[k].params,.int .i64 u.funcs[k].regs,.slice q3 u.funcs[k].blocks.length d3] 37 (0,0))):=q7 (by rw[hw1];exact qh rfl)
   clear hw1
   have hzA:w.heap.size+1+1<wr.heap.size:=by omega
   obtain⟨Sp,hSp⟩:∃Sp:World→Prop,Sp=fun w'=>w'.heap[w.heap.size+1+1]?=some (.cells #[vg,.slice pf k cf] 25 (0,0))∧w'.heap[wr.heap.size]?=some (.cells #[.string u.funcs[k].name,.int .i64 u.funcs[k].params,.int .i64 u.funcs[k].regs,.slice q3 u.funcs[k].blocks.length d3] 37 (0,0)):=⟨_,rfl⟩
   have ha6:∀w',Sp w'→(w'.cell? ⟨w.heap.size+1+1,1,none⟩=some (.slice pf k cf))∧(∀j,w'.cell? ⟨wr.heap.size,j,none⟩=(#[.string u.funcs[k].name,.int .i64 u.funcs[k].params,.int .i64 u.funcs[k].regs,.slice q3 u.funcs[k].blocks.length d3]:Array Value)[j]?)∧w.heap.size+1+1<w'.heap.size∧wr.heap.size<w'.heap.size∧w'.frozen? ⟨w.heap.size+1+1,1,none⟩=false:=fun w' h=>by
    rw[hSp]at h
    exact⟨(blk h.1).1 1,(blk h.2).1,q9 h.1,q9 h.2,(blk h.1).2 1⟩
   have hSk:∀{U:Blks} {x y:World},Sp x→Kept U x y→¬ U (w.heap.size+1+1)→¬ U wr.heap.size→Sp y:=fun {U x y} h hk n1 n2=>by
    rw[hSp]at h ⊢
    exact⟨(hk.block _ (q9 h.1) n1).trans h.1,(hk.block _ (q9 h.2) n2).trans h.2⟩
   have hcV:Sp w1:=by
    rw[hSp]
    exact⟨(HBr.out.block _ hzA).trans HA1.out,HX1.out⟩
   have hS1:Sp w1.drew:=by
    rw[hSp]at hcV ⊢
    exact hcV
   refine ql (S:=Sp) (by kernel_rfl) 7 ?_
   refine tkZ 0 34 (.pointer (some ⟨w.heap.size+1+1,1,none⟩)) rfl rfl hS1 (fun w' h=>?_) ?_
   ·obtain⟨h1,h2,h3,h4,h5⟩:=ha6 w' h
    go_simp
   refine tkZ 1 35 (.slice pf k cf) rfl rfl hS1 (fun w' h=>?_) ?_
   ·obtain⟨h1,h2,h3,h4,h5⟩:=ha6 w' h
    go_simp
   refine tkZ 2 36 (.agg #[.string u.funcs[k].name,.int .i64 u.funcs[k].params,.int .i64 u.funcs[k].regs,.slice q3 u.funcs[k].blocks.length d3]) rfl rfl hS1 (fun w' h=>?_) ?_
   ·obtain⟨h1,h2,h3,h4,h5⟩:=ha6 w' h
    have g0:=h2 0
    have g1:=h2 1
    have g2:=h2 2
    have g3:=h2 3
    go_simp
   have hw1:Below w.heap.size w w1.drew:=(HBw.out.trans (HBr.out.mono (by omega))).drew
   refine qk (i:=3) (by kernel_rfl) (qn 37 rfl rfl rfl (by go_simp) (Qh u.funcs[k] q3 d3 w1.drew HR.out.1 HR.out.2.1 HR.out.2.2.1 (HR.out.2.2.2.mono hw1 (by omega) fun _ _ g=>g.below hw1)) ?_)
   rintro e w2 ⟨⟨p1,m1,rfl,T,hT,hTl⟩,hb2⟩
   have hTi:InB w2 T:=by
    obtain⟨_,_,_,_,_,h⟩:=hT
    exact h.sl.inb
   have hb2:Below w1.heap.size w1 w2:=(Below.refl _ w1).drew.trans hb2
   have hTl:∀k,T k→w1.heap.size≤k:=hTl
   have hS2:Sp w2:=hSk (x:=w1) hcV (Kept.of_below (S:=fun _=>False) hb2) (fun h=>h) (fun h=>h)
   refine⟨_,rfl,hS2,?_⟩
   have hO2:=HO.out.below xl (HBr.out.trans (hb2.mono (by omega)))
   have hz2:=hb2.size
   have HO2:=q7 hO2
   have HT2:=q7 hT
   have HTl:=q7 hTl
   have HTi:=q7 hTi
   have HB2:=q7 hb2
   clear hT hTl hTi hb2 hO2
   have hS3:Sp (w2.alloc (.cells #[.string u.funcs[k].name,.int .i64 u.funcs[k].params,.int .i64 u.funcs[k].regs,.slice p1 u.funcs[k].blocks.length m1] 37)):=hSk hS2 ((Kept.refl (fun _=>False) _).alloc _) (fun h=>h) (fun h=>h)
   refine qk (i:=4) (by kernel_rfl) (qz 38 (.slice (some ⟨w2.heap.size,0,none⟩) 1 1) (w2.alloc (.cells #[.string u.funcs[k].name,.int .i64 u.funcs[k].params,.int .i64 u.funcs[k].regs,.slice p1 u.funcs[k].blocks.length m1] 37)) rfl rfl rfl (by go_simp) hS3 ?_)
   refine qk (i:=5) (by kernel_rfl) (xG 39 _ _ 23 rfl rfl rfl rfl 37 iF _ 4 56 Tryz.underlying23 l1 l2 l3 l4 rfl (by decide) xl rfl (HO2.out.below xl ((Below.refl _ _).alloc (Nat.le_refl _) _)) ⟨w2.heap.size,0,none⟩ 1 [.string u.funcs[k].name,.int .i64 u.funcs[k].params,.int .i64 u.funcs[k].regs,.slice p1 u.funcs[k].blocks.length m1] u.funcs[k] rfl rfl ?hn ?ho (T:=T) ?hy ?ha ?ht ?hm ?hb ?_)
   case hn=>exact x8 _ _ _ rfl
   case ho=>intro u hu;simp only[List.mem_cons,List.not_mem_nil,or_false]at hu;rcases hu with rfl|rfl|rfl|rfl<;>rfl
   case hy=>exact xl _ _ _ _ _ HT2.out (fun k hk=>Below.heap_alloc _ _ k (HTi.out k hk)) (by simp)
   case ha=>exact fun k h1 h2=>by have:=HO.out.inb k h1;have:=HTl.out k h2;omega
   case ht=>exact HTi.out.mono (by simp)
   case hm=>unfold maxLen;simp;omega
   case hb=>simp;omega
   intro v2 w4 ⟨S',hO4,hsub,hK4⟩
   obtain⟨pv,cv,hv2,_⟩:=hO4.val
   have hv3:v2 = .slice pv (k+1) cv:=by rw[hv2];congr 1;simp;omega
   clear hv2
   subst hv3
   have hSn:∀i,i<W1.heap.size→¬ S i:=fun i hi h=>by have:=HL.out i h;omega
   have hgM:¬ S wr.heap.size:=fun h=>by have:=HO.out.inb _ h;omega
   have hS4:Sp w4:=hSk hS3 hK4 (hSn _ (by omega)) hgM
   refine⟨hS4,?_⟩
   refine tkZ 6 40 (.pointer (some ⟨w.heap.size+1+1,1,none⟩)) rfl rfl hS4 (fun w' h=>?_) ?_
   ·obtain⟨h1,h2,h3,h4,h5⟩:=ha6 w' h
    go_simp
   obtain⟨h1,h2,h3,h4,h5⟩:=ha6 w4 hS4
   clear h2
   refine qk (i:=7) (by kernel_rfl) (qA (w4.setCell ⟨w.heap.size+1+1,1,none⟩ (.slice pv (k+1) cv)) rfl rfl rfl (by go_simp) (fun h=>absurd rfl h) (qB (by kernel_rfl) ?_ _))
   show Exit.inBlock 3 _ Exit.normal _ _
   have hrel:(∃S,SlO 37 4 FunO (w4.setCell ⟨w.heap.size+1+1,1,none⟩ (.slice pv (k+1) cv)) (.slice pv (k+1) cv) (u.funcs.take (k+1)) S∧LoB W1.heap.size S)∧(w4.setCell ⟨w.heap.size+1+1,1,none⟩ (.slice pv (k+1) cv)).heap[w.heap.size+1+1]?=some (.cells #[vg,.slice pv (k+1) cv] 25 (0,0))∧Kept (fun k=>k=w.heap.size+1+1) W1 (w4.setCell ⟨w.heap.size+1+1,1,none⟩ (.slice pv (k+1) cv)):=by
    have hlo:LoB W1.heap.size S':=fun i hi=>by
     rcases hsub i hi with h|h|h
     ·exact HL.out i h
     ·have:=HTl.out i h;omega
     simp at h;omega
    have e4:w4.heap[w.heap.size+1+1]?=some (.cells #[vg,.slice pf k cf] 25 (0,0)):=by
     rw[hSp]at hS4
     exact hS4.1
    refine⟨⟨S',?_,hlo⟩,?_,?_⟩
    ·have hO9:SlO 37 4 FunO w4 (.slice pv (k+1) cv) (u.funcs.take (k+1)) S':=by first|exact hO4|(rw[List.take_succ_eq_append_getElem hlt];exact hO4)
     exact hO9.loc xl (fun i hi=>Go.Deep.blk_setCell_other _ _ _ _ (fun e=>by have:=hlo i hi;have e2:i=w.heap.size+1+1:=e;omega)) (by simp[World.setCell])
    ·rw[qd e4 1 _]
     rfl
    have kA:Kept (fun k=>k=w.heap.size+1+1) W1 w2:=HK.out.trans (Kept.of_below (S:=fun _=>False) (HBr.out.trans (HB2.out.mono (by omega)))) (fun _ _ h=>h.elim)
    exact((kA.alloc _).trans hK4 (fun i hi h=>absurd h (hSn i hi))).setCell rfl _
   have ha7:=q7 hrel
   clear hrel hS4 h1 h3 h4 h5 hO4 hsub hK4 hS3 hS2
   go_wp2_with fail
   exact⟨⟨k+1,.slice pv (k+1) cv,by omega,by go_num,ha7.out.1,ha7.out.2.1,ha7.out.2.2⟩,by simp[intOf];omega⟩
end Go.Proofs.YtecdphhdmjmmnaaGreatDoor
namespace Go.Proofs.YtecdphhdmjmmnaaGreatDoor
open Go.RowKit

theorem SlW.cell {α:Type} {e:TypeId} {size:Nat} {R:ElemO α} {w:World} {v:Value} {xs:List α} {S:Blks} {cs:Nat→List Value} {T:Nat→Blks} (h:SlW e size R w v xs S cs T) {i:Nat} (hi:i<xs.length):∃g c,v = .slice (some ⟨g,0,none⟩) xs.length c∧S g∧g<w.heap.size∧∀j,j<size→w.cell? ⟨g,i*size+j,none⟩=(cs i)[j]?:=by
 rcases h.own.2 with⟨_,h2⟩|⟨g,cap,cur,hv,_,hg,_,_,_,htk⟩
 ·omega
 refine⟨g,cap,hv,h.blk g (by rw[hv];rfl),(Array.getElem?_eq_some_iff.1 hg).1,fun j hj=>?_⟩
 rw[cell_of_row w g _ cur e (0,0) hg]
 have hlt:i*size+j<xs.length*size:=by
  have:(i+1)*size≤xs.length*size:=Nat.mul_le_mul_right _ hi
  rw[Nat.add_mul]at this
  omega
 rw[←zj xs.length h.len i j hi hj,←htk,List.getElem?_take_of_lt hlt,Array.getElem?_toList]

def putL (b:BlkL) (l:List InsL):BlkL:={ b with list:=l }
def setI (f:FunL) (m j:Nat) (i:InsL):FunL:={ f with blocks:=f.blocks.modify m fun b=>putL b (b.list.set j i) }
theorem Xb {f:FunL} {m j:Nat} {i:InsL} (hm:m<f.blocks.length):f.blocks.modify m (fun b=>putL b (b.list.set j i))=f.blocks.set m (putL f.blocks[m] (f.blocks[m].list.set j i)):=by
 refine List.ext_getElem (by simp) fun k h1 h2=>?_
 have h3:k<f.blocks.length:=by simpa using h1
 rw[List.getElem_modify,List.getElem_set]
 split
 ·next e=>subst e;rfl
 rfl

theorem FunO.ins {w:World} {cs:List Value} {f:FunL} {T:Blks} (h:FunO w cs f T) {m j:Nat} (hm:m<f.blocks.length) (hj:j<f.blocks[m].list.length):∃bb cb lb c2 ci Ti,cs=[.string f.name,.int .i64 f.params,.int .i64 f.regs,.slice (some ⟨bb,0,none⟩) f.blocks.length cb]∧
  w.cell? ⟨bb,m*6+1,none⟩=some (.slice (some ⟨lb,0,none⟩) f.blocks[m].list.length c2)∧T bb∧T lb∧lb≠bb∧InsO w ci f.blocks[m].list[j] Ti∧¬ Ti lb∧¬ Ti bb∧(∀k,Ti k→T k)∧(∀jj,jj<8→w.cell? ⟨lb,j*8+jj,none⟩=ci[jj]?)∧ci.length=8∧(∀o,w.frozen? ⟨lb,o,none⟩=false)∧(∃cur,w.heap[lb]?=some (.cells cur 53 (0,0)))∧
  ∀(w':World) (ci':List Value) (i':InsL) (Ti':Blks),RowPut w w' 53 lb (j*8) 8 ci'→ci'.length=8→(∀u∈ci',u.oneCell'=true)→w.heap.size≤w'.heap.size→(∀k,T k→¬ Ti k→k≠lb→w'.heap[k]?=w.heap[k]?)→
   InsO w' ci' i' Ti'→(∀k,Ti' k→(Ti k∨w.heap.size≤k)∧k<w'.heap.size)→FunO w' cs (setI f m j i') (fun k=>T k∨Ti' k):=by
 obtain⟨v,hcs,hnm,i1,i2,hB⟩:=h
 obtain⟨bb,cb,cB,TB,hv,hbs,hTb,hlB,hnC,hnb,hTB,hcB,hfB,⟨curB,hgO⟩,hput⟩:=hB.sl.focus qK (by omega) hm
 obtain⟨v1,v2,v3,S1,S2,S3,rfl,j1,j2,h3,h4,h5,a1,a2,a3,g1,g2,g3⟩:=hnC
 obtain⟨lb,c2,ci,Ti,hv2,hls,hSl,hli,hI,hnl,hTi,hci,hfi,hau,hgP⟩:=h4.sl.focus qU (by omega) hj
 subst hv hv2
 have hne:lb≠bb:=fun e=>hnb (g2 _ (by rw[←e];exact hSl))
 refine⟨bb,cb,lb,c2,ci,Ti,hcs,(hcB 1 (by omega)),hTb,hTB _ (g2 _ hSl),hne,hI,hnl,fun h=>hnb (g2 _ (hTi _ h)),fun k hk=>hTB _ (g2 _ (hTi _ hk)),hci,hli,hfi,hau,?_⟩
 intro w' ci' i' Ti' hp hl' h1' hs hk hI' hT'
 have e1:∀k,T k→¬ Ti k→k≠lb→w'.heap[k]?=w.heap[k]?:=hk
 have hL:=hgP w' ci' i' Ti' hp hl' h1' hs (fun k hk1 hk2 hk3=>e1 k (hTB _ (g2 _ hk1)) hk2 hk3) hI' hT'
 have hlen:(f.blocks[m].list.set j i').length=f.blocks[m].list.length:=by simp
 have h1n:∀k,S1 k→w'.heap[k]?=w.heap[k]?:=fun k hk=>e1 k (hTB _ (g1 _ hk)) (fun h=>a1 _ hk (hTi _ h)) (fun e=>a1 _ hk (by rw[e];exact hSl))
 have h3n:∀k,S3 k→w'.heap[k]?=w.heap[k]?:=fun k hk=>e1 k (hTB _ (g3 _ hk)) (fun h=>a3 _ (hTi _ h) hk) (fun e=>a3 _ hSl (by rw[←e];exact hk))
 have hnE:w'.heap[bb]?=w.heap[bb]?:=e1 bb hTb (fun h=>hnb (g2 _ (hTi _ h))) (fun e=>hne e.symm)
 have hB':BlkO w' [v1,.slice (some ⟨lb,0,none⟩) f.blocks[m].list.length c2,.int .i64 f.blocks[m].fin.kind,.bool f.blocks[m].fin.onr,.int .i64 f.blocks[m].fin.onn,v3] (putL f.blocks[m] (f.blocks[m].list.set j i')) (fun k=>TB k∨Ti' k):=by
  refine⟨v1,_,v3,S1,fun k=>S2 k∨Ti' k,S3,rfl,j1,j2,h3.loc zQ (fun _ g=>g) h1n hs,⟨?_,by show(f.blocks[m].list.set j i').length*80≤_;rw[hlen];exact h4.bd⟩,h5.loc qX (fun _ g=>g) h3n hs,fun k x y=>?_,a2,fun k x y=>?_,fun k x=>.inl (g1 k x),fun k x=>?_,fun k x=>.inl (g3 k x)⟩
  ·exact hL
  ·rcases y with y|y
   ·exact a1 k x y
   rcases (hT' k y).1 with z|z
   ·exact a1 k x (hTi _ z)
   have:=h3.sl.inb k x;omega
  ·rcases x with x|x
   ·exact a3 k x y
   rcases (hT' k x).1 with z|z
   ·exact a3 k (hTi _ z) y
   have:=h5.sl.inb k y;omega
  rcases x with x|x
  ·exact .inl (g2 k x)
  exact .inr x
 have hgU:(f.blocks.set m (putL f.blocks[m] (f.blocks[m].list.set j i'))).length=f.blocks.length:=by simp
 have hF:=hput w' _ (putL f.blocks[m] (f.blocks[m].list.set j i')) (fun k=>TB k∨Ti' k) (RowPut.same hgO hnE hcB) hlB (fun u hu=>?_) hs (fun k hk1 hk2 hk3=>e1 k hk1 (fun h=>hk2 (g2 _ (hTi _ h))) (fun e=>hk2 (by rw[e];exact g2 _ hSl))) hB' (fun k hk=>?_)
 ·refine⟨.slice (some ⟨bb,0,none⟩) f.blocks.length cb,hcs,hnm,i1,i2,⟨?_,?_⟩⟩
  ·show SlO _ _ _ _ _ (f.blocks.modify m _) _
   rw[Xb hm]
   exact hF.grow (fun k hk=>hk.elim .inl fun x=>x.elim (fun x=>.inl (hTB _ x)) .inr) (fun k hk=>by
    rcases hk with x|x
    ·exact Nat.lt_of_lt_of_le (hB.sl.inb k x) hs
    exact(hT' k x).2)
  show(f.blocks.modify m _).length*96≤_
  rw[Xb hm,hgU]
  exact hB.bd
 ·obtain⟨q1,d1,rfl,_⟩:=h3.sl.val
  obtain⟨q3,d3,rfl,_⟩:=h5.sl.val
  simp only[List.mem_cons,List.not_mem_nil,or_false]at hu
  rcases hu with rfl|rfl|rfl|rfl|rfl|rfl<;>rfl
 rcases hk with x|x
 ·exact⟨.inl x,Nat.lt_of_lt_of_le (hB.sl.inb k (hTB k x)) hs⟩
 refine⟨?_,(hT' k x).2⟩
 rcases (hT' k x).1 with z|z
 ·exact .inl (g2 _ (hTi _ z))
 exact .inr z
end Go.Proofs.YtecdphhdmjmmnaaGreatDoor
namespace Go.Proofs.YtecdphhdmjmmnaaGreatDoor
open Go.RowKit Go.Shelf

def SeqAt (F:Fence) (n:Nat) (P:Program) (g:Nat) (lb:Array Value) (el:Nat→Array Value) (N:Nat) (Kp:World→World→Prop) (w:World):Prop:=
 ∀(l:Nat) (J Jx:Nat→World→Prop) (W:World),Below w.heap.size w W→AbidesFrom W.heap.size J→AbidesFrom W.heap.size Jx→
  (∀i W1,i<N→J i W1→YieldAt F (n - 1) P l (el i) W1 fun e W'=>(e = .returned (.bool true)∧J (i+1) W'∧Kp W1 W')∨(e = .returned (.bool false)∧Jx i W'))→J 0 W→
  CallsIn F n P g (#[.func (.yield l) #[] #[]]++lb) W fun e W'=>(∃v,e = .returned v)∧(J N W'∨∃i,i<N∧Jx i W')
def Xc (B:Nat) (Kp:World→World→Prop) (I:Nat→World→Prop) (Ix:Code→Nat→World→Prop) (i:Nat) (W:World) (e:Exit) (W':World):Prop:=
 KeepsFrom B W W'∧match e with
  | .normal=>Kp W W'∧I (i+1) W'
  | .ret=>Ix .ret i W'
  | .exit id=>Ix (.exit id) i W'
  | .goto t=>Ix (.goto t) i W'
  | _=>False
section
variable {F : Fence} {n : Nat} {P : Program} {g : Operand} {ps : Array Tmp} {assign body : Code} {Q : Exit → Act → World → Prop} {a : Act} {w : World} {gf : Nat} {lb : Array Value} {el : Nat → Array Value} {N : Nat} {Kp : World → World → Prop} {w0 : World}
theorem Xd (hro:F.round=none) (h1:1≤n) (hg:a.eval g = .func (.func gf) #[] lb) (hFg:F.fn gf) (eg:∀args w,(callFunc gf args).run P w = .ok (.enter gf args) w) (hseq:SeqAt F (n - 1) P gf lb el N Kp w0)
  (hKt:∀{A B C:World},Kp A B→Kp B C→Kp A C) (hKb:∀(W:World) (l:Nat) (o o':Obj),w.heap.size≤l→W.heap[l]?=some o→o.isCells=false→o.isWalk=false→Kp W (W.putObj l o')) (hb0:Below w0.heap.size w0 w) (hps:∀i,i<N→(el i).size=ps.size)
  (I:Nat→World→Prop) (Ix:Code→Nat→World→Prop) (hI:OwnFrom w.heap.size I) (hIx:∀c,OwnFrom w.heap.size (Ix c)) (h0:I 0 w) (a₁:Nat→Act)
  (hassign:∀(l i:Nat) (W:World) (K:Act→World→Prop),i<N→K (a₁ i) W→assign.wpIn (F.inRound l) (n - 1 - 1) P (Exit.then K (fun _ _ _=>False)) { tmps:=(ps.zip (el i)).foldl (fun t (p,v)=>t.setIfInBounds p v) a.tmps,defers:=[] } W)
  (hbody:∀(l i:Nat) (W:World),w.heap.size≤l→i<N→I i W→body.wpIn (F.inRound l) (n - 1 - 1) P (fun e _ W'=>Xc w.heap.size Kp I Ix i W e W') (a₁ i) W)
  (hdone:∀(D:Nat) (W:World),w.heap.size≤D→I N W→W.heap[D]?=some (.deferred (some []))→Q .normal { a with defers:={ target:=.collected D,args:=#[] }::a.defers } W)
  (hstop:∀(D:Nat) (c:Code) (i:Nat) (W:World),w.heap.size≤D→i<N→Ix c i W→W.heap[D]?=some (.deferred (some []))→c.wpIn F n P Q { a with defers:={ target:=.collected D,args:=#[] }::a.defers } W) :
  (Code.rangeFunc g ps assign body).wpIn F n P Q a w:=by
 refine wpIn_rangeFunc fun fn hfn=>?_
 rw[hro]
 -- the record of the loop and the block for what rounds defer: the blocks L and D
 obtain⟨rec,hrec⟩:∃rec:LoopState→Option Code→Loop,rec=fun st pe=>{ state:=st,pending:=pe,fn,tmps:=a.tmps,params:=ps,assign,body,defers:=w.heap.size }:=⟨_,rfl⟩
 have hst:∀st pe,{ rec .ready none with state:=st,pending:=pe }=rec st pe:=fun st pe=>by rw[hrec]
 let Bk:LoopState→Option Code→World→Prop:=fun st pe W=>W.heap[w.heap.size+1]?=some (.loop (rec st pe))∧W.heap[w.heap.size]?=some (.deferred (some []))
 have heb:Bk .ready none ((w.alloc (.deferred (some []))).alloc (.loop (rec .ready none))):=
  ⟨qh (by simp),qj (qm w _)⟩
 have hec:∀{st pe A B row},Bk st pe A→A.grownBy B row→(∀r,row=some r→∃o:Obj,A.heap[r]?=some o∧o.isWalk=true)→Bk st pe B:=fun h hg hr=>
  ⟨(grownBy_keeps hg hr h.1 rfl).trans h.1,(grownBy_keeps hg hr h.2 rfl).trans h.2⟩
 have haW:∀{st pe st' pe' A},Bk st pe A→Bk st' pe' (A.putObj (w.heap.size+1) (.loop (rec st' pe'))):=fun {st pe st' pe' A} h=>
  ⟨World.putObj_heap_same (q9 h.1),(World.putObj_heap_other (by omega)).trans h.2⟩
 obtain⟨W1,hW1⟩:∃W1,W1=(w.alloc (.deferred (some []))).alloc (.loop (rec .ready none)):=⟨_,rfl⟩
 rw[←hW1]at heb
 have hz1:W1.heap.size=w.heap.size+1+1:=by rw[hW1];simp
 have hent:(Instr.enterLoop fn a.tmps ps assign body none).run P w = .ok (w.heap.size+1,[{ target:=.collected w.heap.size,args:=#[] }]) W1:=by
  rw[hW1,hrec];exact run_enterLoop_outer _ _ _ _ _
 refine⟨w.heap.size+1,[{ target:=.collected w.heap.size,args:=#[] }],W1,{ target:=.fn (.func gf) lb,args:=#[.func (.yield (w.heap.size+1)) #[] #[]] },W1,gf,
  #[.func (.yield (w.heap.size+1)) #[] #[]]++lb,W1,hent,?_,fun f' hf'=>by simp[Target.leads]at hf';subst hf';exact hFg,?_,fun _=>h1,?_⟩
 ·simp only[resolve,hg]
  simp[go_sem]
 ·simp[invoke,go_sem,eg]
 have haX:∀{A:World} {row:Option Nat},(∀r,row=some r→W1.heap.size≤r∧∃o:Obj,A.heap[r]?=some o∧o.isWalk=true)→∀r,row=some r→w.heap.size≤r∧∃o:Obj,A.heap[r]?=some o∧o.isCells=false:=fun hr r e=>by
  obtain⟨hB,o,ho,hw⟩:=hr r e
  exact⟨by omega,o,ho,Obj.not_cells_of_walk hw⟩
 refine(hseq (w.heap.size+1) (fun i W=>I i W∧Bk .ready none W) (fun i W=>∃c,Ix c i W∧Bk .done (some c) W) _
  (by rw[hW1];exact hb0.trans ((((Below.refl _ w).alloc (Nat.le_refl _) _).alloc (by simp) _).mono hb0.size))
  (fun s A B row hs hg' hr=>⟨hI s A B row hs.1 hg' (haX hr),hec hs.2 hg' fun r e=>(hr r e).2⟩)
  (fun s A B row ⟨c,hc,hk⟩ hg' hr=>⟨c,hIx c s A B row hc hg' (haX hr),hec hk hg' fun r e=>(hr r e).2⟩)
  (fun i W hlt ⟨hi,hk⟩=>?_) ⟨by rw[hW1];exact hI.alloc _ (hI.alloc _ h0),heb⟩).mono ?_
 ·have hy:=run_yield (P:=P) (args:=el i) hk.1 (by rw[hrec];exact hps i hlt)
  rw[hrec]at hy
  refine⟨fn,_,assign,body,hy,roundIn_of_wpIn hfn (hassign _ i W _ hlt ⟨_,run_beginRound hk.1 (by rw[hrec]),?_⟩)⟩
  rw[show({ rec .ready none with state:=.busy }:Loop)=rec .busy none by rw[hrec]]
  have hkb:=haW (st':=.busy) (pe':=none) hk
  refine wpIn_mono (hbody _ i _ (by omega) hlt (hI.putObj _ hi (by omega) hk.1 rfl)) fun e a3 W3 ⟨hk3,hp⟩=>?_
  have hb3:Bk .busy none W3:=⟨hk3.same _ _ (by omega) hkb.1 rfl,hk3.same _ _ (Nat.le_refl _) hkb.2 rfl⟩
  have fin:∀jump:Option Code,(Instr.endRound (w.heap.size+1) jump).run P W3 = .ok (.bool jump.isNone) (W3.putObj (w.heap.size+1) (.loop (rec (if jump.isNone then .ready else .done) jump))):=fun jump=>by
   have:=run_endRound (P:=P) jump hb3.1
   rw[hrec]at this ⊢
   exact this
  have leave:∀c:Code,Ix c i W3→_:=fun c hc=>(⟨.bool false,W3.putObj (w.heap.size+1) (.loop (rec .done (some c))),fin (some c),.inr ⟨rfl,c,(hIx c).putObj _ hc (by omega) hb3.1 rfl,haW hb3⟩⟩:∃v W4,(Instr.endRound (w.heap.size+1) (some c)).run P W3 = .ok v W4∧((Ending.returned v = .returned (.bool true)∧(I (i+1) W4∧Bk .ready none W4)∧Kp W W4)∨(Ending.returned v = .returned (.bool false)∧∃c,Ix c i W4∧Bk .done (some c) W4)))
  cases e with
  | normal=>
   exact⟨_,_,fin none,.inl ⟨rfl,⟨hI.putObj _ hp.2 (by omega) hb3.1 rfl,haW hb3⟩,hKt (hKt (hKb _ _ _ _ (by omega) hk.1 rfl rfl) hp.1) (hKb _ _ _ _ (by omega) hb3.1 rfl rfl)⟩⟩
  | ret=>exact leave _ hp
  | exit id=>exact leave _ hp
  | goto t=>exact leave _ hp
  | panic ch=>exact hp.elim
  | outgrown=>exact hp.elim
 have shut:∀{st pe W2},st≠.busy→Bk st pe W2→(Instr.endLoop (w.heap.size+1)).run P W2 = .ok pe (W2.putObj (w.heap.size+1) (.loop (rec .exhausted pe))):=fun {st pe W2} hne hk=>by
  have:=run_endLoop (P:=P) hk.1 (by rw[hrec];exact hne)
  rw[hrec]at this ⊢
  exact this
 rintro e W2 ⟨⟨v,rfl⟩,(⟨hi,hk⟩|⟨i,hlt,c,hi,hk⟩)⟩
 ·exact⟨none,_,shut (by simp) hk,hdone _ _ (Nat.le_refl _) (hI.putObj _ hi (by omega) hk.1 rfl) (haW hk).2⟩
 exact⟨some c,_,shut (by simp) hk,hstop _ c i _ (Nat.le_refl _) hlt ((hIx c).putObj _ hi (by omega) hk.1 rfl) (haW hk).2⟩
end
attribute [local go_sem] Oper.semAt_some

theorem QY {ts:Array Value} {n:Nat} (h:ts.size=n):ts=((List.range n).map fun i=>ts.getD i undef).toArray:=by
 subst h
 refine Array.ext (by simp) fun i h1 h2=>?_
 simp[Array.getD,h1]

theorem xH {W:World} {l b o:Nat} {x:Obj} {v:Value} (h:W.heap[l]?=some x) (hx:x.isCells=false) (hc:W.cell? ⟨b,o,none⟩=some v):b≠l:=by
 rintro rfl
 unfold World.cell? at hc
 rw[h]at hc
 cases x<;>simp[Obj.isCells]at hx hc
theorem Zs {S:Blks} {w0:World} {B:Nat} (hB:w0.heap.size≤B):OwnFrom B (fun(_:Nat) W=>Kept S w0 W):=fun s W W' row hs hg hr=>
 ⟨hg.os.trans hs.os,hg.tape.trans hs.tape,hg.output.trans hs.output,Nat.le_trans hs.size hg.size,fun k hk hn=>(hg.block k (Nat.lt_of_lt_of_le hk hs.size) (fun e=>by have:=(hr k e.symm).1;omega)).trans (hs.block k hk hn)⟩

end Go.Proofs.YtecdphhdmjmmnaaGreatDoor
namespace Go.Proofs.YtecdphhdmjmmnaaGreatDoor

def cnt (had:Nat→Bool):Nat→Nat
 | 0=>0
 | k+1=>cnt had k+if had k then 1 else 0
end Go.Proofs.YtecdphhdmjmmnaaGreatDoor
