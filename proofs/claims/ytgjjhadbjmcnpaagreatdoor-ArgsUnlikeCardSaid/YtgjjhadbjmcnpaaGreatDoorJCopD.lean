/-
  The contract of calls.Copy.
-/
import Derived.Deep.DeepCutAuto
import Derived.Outline
import Derived.Test.YtgjjhadbjmcnpaaGreatDoorJOwnC
set_option maxRecDepth 100000
set_option maxHeartbeats 16000000
namespace Go.Proofs.YtgjjhadbjmcnpaaGreatDoor
open Go.RowKit Go.Shelf

theorem Zz:(Tryz.prog.info? 49).map (fun i=>(i.zero,i.size,i.bytes))=some (some (.agg #[.slice none 0 0,.slice none 0 0,.int .i64 0,.bool false,.int .i64 0,.slice none 0 0]),6,96):=by kernel_rfl

theorem BlkO.tight {w:World} {cs:List Value} {x:BlkL} {T:Blks} (h:BlkO w cs x T):∃T',BlkO w cs x T'∧InB w T'∧∀k,T' k→T k:=by
 obtain ⟨v1,v2,v3,S1,S2,S3,h0,h1,h2,h3,h4,h5,a1,a2,a3,g1,g2,g3⟩:=h
 refine ⟨fun k=>S1 k∨S2 k∨S3 k,⟨v1,v2,v3,S1,S2,S3,h0,h1,h2,h3,h4,h5,a1,a2,a3,fun _ h=>.inl h,fun _ h=>.inr (.inl h),fun _ h=>.inr (.inr h)⟩,?_,?_⟩
 ·rintro k (h|h|h)
  ·exact h3.sl.inb k h
  ·exact h4.sl.inb k h
  exact h5.sl.inb k h
 rintro k (h|h|h)
 ·exact g1 k h
 ·exact g2 k h
 exact g3 k h

theorem Jd (f:FunL) (q:Option Addr) (e1:Nat) (w:World) (hn:f.name.size≤reachBytes) (i1:I64 f.params) (i2:I64 f.regs) (hB:SlF w 6 96 (BlkR w) (.slice q f.blocks.length e1) f.blocks) :
  Calls Tryz.prog 43 #[.agg #[.string f.name,.int .i64 f.params,.int .i64 f.regs,.slice q f.blocks.length e1]] w fun e w'=>(∃p c,e = .returned (.agg #[.string f.name,.int .i64 f.params,.int .i64 f.regs,.slice p f.blocks.length c])∧
   ∃S,FunO w' [.string f.name,.int .i64 f.params,.int .i64 f.regs,.slice p f.blocks.length c] f S∧LoB w.heap.size S)∧Below w.heap.size w w':=by
 obtain ⟨iB,k1,k2,k3,k4⟩:=info_parts Zz
 have hbd:=hB.bdC
 have hlb:f.blocks.length*96≤140737488351232:=hbd
 have hBs:SliceAt w 6 (BlkR w) q f.blocks:=by
  obtain ⟨p,c,e,_,_,h⟩:=hB.outC
  cases e
  exact h
 have HBs:=q8 hBs
 have HBd:=q8 hbd
 have HN:=q8 (And.intro hn (And.intro i1 i2))
 clear hB hBs hbd hn i1 i2
 go_enter Tryz.func43,Tryz.ntmps43
 go_wp2_with fail
 obtain ⟨W0,hW0⟩:∃W0,W0=(w.alloc (.cells #[.string f.name,.int .i64 f.params,.int .i64 f.regs,.slice none 0 0] 38)).alloc (.cells #[.string { data:=#[] },.int .i64 0,.int .i64 0,.slice none 0 0] 38):=⟨_,rfl⟩
 rw [←hW0]
 have hz0:W0.heap.size=w.heap.size+1+1:=by rw [hW0];simp
 have HB0:Hid (Below w.heap.size w W0):=q8 (by rw [hW0];exact bZ)
 have HA:Hid (W0.heap[w.heap.size]?=some (.cells #[.string f.name,.int .i64 f.params,.int .i64 f.regs,.slice none 0 0] 38 (0,0))):=q8 (by rw [hW0];exact qh (qq rfl))
 have HZ:Hid (W0.heap[w.heap.size+1]?=some (.cells #[.string { data:=#[] },.int .i64 0,.int .i64 0,.slice none 0 0] 38 (0,0))):=q8 (by rw [hW0];exact qq (by simp))
 clear hW0
 go_loopw [11] (fun i wr=>∃(k:Nat) (v:Value),k≤f.blocks.length∧i = .int .i64 k∧(∃S,SlO 49 6 BlkO wr v (f.blocks.take k) S∧LoB W0.heap.size S)∧wr.heap[w.heap.size]?=some (.cells #[.string f.name,.int .i64 f.params,.int .i64 f.regs,v] 38 (0,0))∧Kept (fun k=>k=w.heap.size) W0 wr) (fun i _=>f.blocks.length - (intOf i).toNat)
 case atStart=>exact ⟨0,.slice none 0 0,by omega,rfl,⟨fun _=>False,SlO.nil _ _ _ _ (fun _ h=>h.elim),fun _ h=>h.elim⟩,HA.out,Kept.refl _ _⟩
 case round=>
  obtain ⟨k,v,hk,rfl,⟨S,hO,hL⟩,hA,hK⟩:=hrel
  obtain ⟨p,c,hv,_⟩:=hO.val
  rw [List.length_take_of_le hk] at hv
  subst hv
  have HO:=q8 hO
  have HL:=q8 hL
  have HK:=q8 hK
  have HA1:=q8 hA
  have hsz:=hK.size
  have HBw:Hid (Below w.heap.size w wr):=HB0.out.trans (hK.below (by omega) (fun _ e=>by omega))
  clear hO hL hK hA
  by_cases hlt:k<f.blocks.length
  rotate_left
  ·obtain rfl:k=f.blocks.length:=by omega
   have r0:wr.cell? ⟨w.heap.size,0,none⟩=some (.string f.name):=(blk HA1.out).1 0
   have r1:wr.cell? ⟨w.heap.size,1,none⟩=some (.int .i64 f.params):=(blk HA1.out).1 1
   have r2:wr.cell? ⟨w.heap.size,2,none⟩=some (.int .i64 f.regs):=(blk HA1.out).1 2
   have r3:wr.cell? ⟨w.heap.size,3,none⟩=some (.slice p f.blocks.length c):=(blk HA1.out).1 3
   have hZ:=(HK.out.block (w.heap.size+1) (by omega) (by omega)).trans HZ.out
   have rZ:=blk hZ
   have rz0:wr.cell? ⟨w.heap.size+1,0,none⟩=some (.string { data:=#[] }):=rZ.1 0
   have rz1:wr.cell? ⟨w.heap.size+1,1,none⟩=some (.int .i64 0):=rZ.1 1
   have rz2:wr.cell? ⟨w.heap.size+1,2,none⟩=some (.int .i64 0):=rZ.1 2
   have rz3:wr.cell? ⟨w.heap.size+1,3,none⟩=some (.slice none 0 0):=rZ.1 3
   have rf:=rZ.2
   have hzl:=qd hZ
   go_wp2_with fail
   rw [List.take_length] at HO
   obtain ⟨WF,hWF⟩:∃WF,WF=(((wr.setCell ⟨w.heap.size+1,0,none⟩ (.string f.name)).setCell ⟨w.heap.size+1,1,none⟩ (.int .i64 f.params)).setCell ⟨w.heap.size+1,2,none⟩ (.int .i64 f.regs)).setCell ⟨w.heap.size+1,3,none⟩ (.slice p f.blocks.length c):=⟨_,rfl⟩
   rw [←hWF]
   have hF1:WF.heap[w.heap.size+1]?=some (.cells #[.string f.name,.int .i64 f.params,.int .i64 f.regs,.slice p f.blocks.length c] 38 (0,0)):=by
    rw [hWF,qj (qj (qj (qj hZ 0 _) 1 _) 2 _) 3 _]
    rfl
   have hFo:∀k,k≠w.heap.size+1→WF.heap[k]?=wr.heap[k]?:=fun k h1=>by
    rw [hWF]
    repeat rw [Go.Deep.blk_setCell_other _ _ _ _ (by assumption)]
   have hFs:WF.heap.size=wr.heap.size:=by rw [hWF];simp [World.setCell]
   have hFb:Below w.heap.size w WF:=by
    rw [hWF]
    exact (((HBw.out.setCell (by simp) _).setCell (by simp) _).setCell (by simp) _).setCell (by simp) _
   clear hWF
   have k0:=(blk hF1).1 0
   have k1':=(blk hF1).1 1
   have k2':=(blk hF1).1 2
   have k3':=(blk hF1).1 3
   refine bodyPost_ret (v:=.agg #[.string f.name,.int .i64 f.params,.int .i64 f.regs,.slice p f.blocks.length c]) ?_ rfl ⟨⟨p,c,rfl,S,⟨_,rfl,HN.out.1,HN.out.2.1,HN.out.2.2,⟨HO.out.loc qU (fun i hi=>hFo i (fun e=>by have:=HL.out i hi;omega)) (by omega),HBd.out⟩⟩,fun i hi=>by have:=HL.out i hi;omega⟩,hFb⟩
   simp [results,Tryz.results43,go_sem,k0,k1',k2',k3']
  obtain ⟨bp,op,cs,hp,_,hc,b0,b1,b2,rfl,b3,b4,b5,b6,b7⟩:=HBs.out.get hlt
  subst hp
  obtain ⟨q1,d1,rfl,_⟩:=b5.outC
  obtain ⟨q2,d2,rfl,_⟩:=b6.outC
  obtain ⟨q3,d3,rfl,_⟩:=b7.outC
  have hc0:=hc 0 (by omega)
  have hbp:=q9 hc0
  have c0:=(HBw.out.cell (p:=⟨bp,_,none⟩) hbp).trans hc0
  have c1:=(HBw.out.cell (p:=⟨bp,_,none⟩) hbp).trans (hc 1 (by omega))
  have c2:=(HBw.out.cell (p:=⟨bp,_,none⟩) hbp).trans (hc 2 (by omega))
  have c3:=(HBw.out.cell (p:=⟨bp,_,none⟩) hbp).trans (hc 3 (by omega))
  have c4:=(HBw.out.cell (p:=⟨bp,_,none⟩) hbp).trans (hc 4 (by omega))
  have c5:=(HBw.out.cell (p:=⟨bp,_,none⟩) hbp).trans (hc 5 (by omega))
  simp only [List.getElem?_cons_zero,List.getElem?_cons_succ,Nat.add_zero] at c0 c1 c2 c3 c4 c5
  have HR:=q8 (And.intro b3 (And.intro b4 (And.intro b5 (And.intro b6 b7))))
  clear hc hc0 b3 b4 b5 b6 b7
  go_wp2_with fail
  obtain ⟨w1,hw1⟩:∃w1,w1=wr.alloc (.cells #[.slice q1 f.blocks[k].phis.length d1,.slice q2 f.blocks[k].list.length d2,.int .i64 f.blocks[k].fin.kind,.bool f.blocks[k].fin.onr,.int .i64 f.blocks[k].fin.onn,.slice q3 f.blocks[k].fin.to.length d3] 49):=⟨_,rfl⟩
  rw [←hw1]
  have hz1:w1.heap.size=wr.heap.size+1:=by rw [hw1];simp
  have HBr:Hid (Below wr.heap.size wr w1):=q8 (by rw [hw1];exact bZ)
  have HX1:Hid (w1.heap[wr.heap.size]?=some (.cells #[.slice q1 f.blocks[k].phis.length d1,.slice q2 f.blocks[k].list.length d2,.int .i64 f.blocks[k].fin.kind,.bool f.blocks[k].fin.onr,.int .i64 f.blocks[k].fin.onn,.slice q3 f.blocks[k].fin.to.length d3] 49 (0,0))):=q8 (by rw [hw1];exact qq rfl)
  clear hw1
  have hzA:w.heap.size<wr.heap.size:=by omega
  obtain ⟨Sp,hSp⟩:∃Sp:World→Prop,Sp=fun w'=>w'.heap[w.heap.size]?=some (.cells #[.string f.name,.int .i64 f.params,.int .i64 f.regs,.slice p k c] 38 (0,0))∧w'.heap[wr.heap.size]?=some (.cells #[.slice q1 f.blocks[k].phis.length d1,.slice q2 f.blocks[k].list.length d2,.int .i64 f.blocks[k].fin.kind,.bool f.blocks[k].fin.onr,.int .i64 f.blocks[k].fin.onn,.slice q3 f.blocks[k].fin.to.length d3] 49 (0,0)):=⟨_,rfl⟩
  have ha6:∀w',Sp w'→(∀j,w'.cell? ⟨w.heap.size,j,none⟩=(#[.string f.name,.int .i64 f.params,.int .i64 f.regs,.slice p k c]:Array Value)[j]?)∧(∀j,w'.cell? ⟨wr.heap.size,j,none⟩=(#[.slice q1 f.blocks[k].phis.length d1,.slice q2 f.blocks[k].list.length d2,.int .i64 f.blocks[k].fin.kind,.bool f.blocks[k].fin.onr,.int .i64 f.blocks[k].fin.onn,.slice q3 f.blocks[k].fin.to.length d3]:Array Value)[j]?)∧w.heap.size<w'.heap.size∧wr.heap.size<w'.heap.size∧w'.frozen? ⟨w.heap.size,3,none⟩=false:=fun w' h=>by
   rw [hSp] at h
   exact ⟨(blk h.1).1,(blk h.2).1,qd h.1,qd h.2,(blk h.1).2 3⟩
  have hSk:∀{U:Blks} {x y:World},Sp x→Kept U x y→¬ U w.heap.size→¬ U wr.heap.size→Sp y:=fun {U x y} h hk n1 n2=>by
   rw [hSp] at h ⊢
   exact ⟨(hk.block _ (qd h.1) n1).trans h.1,(hk.block _ (qd h.2) n2).trans h.2⟩
  have hdu:Sp w1:=by
   rw [hSp]
   exact ⟨(HBr.out.block _ hzA).trans HA1.out,HX1.out⟩
  have hS1:Sp w1.drew:=by
   rw [hSp] at hdu ⊢
   exact hdu
  refine qz (S:=Sp) (by kernel_rfl) 7 ?_
  refine tkZ 0 15 (.pointer (some ⟨w.heap.size,3,none⟩)) rfl rfl hS1 (fun w' h=>?_) ?_
  ·obtain ⟨h1,h2,h3,h4,h5⟩:=ha6 w' h
   go_simp
  refine tkZ 1 16 (.slice p k c) rfl rfl hS1 (fun w' h=>?_) ?_
  ·obtain ⟨h1,h2,h3,h4,h5⟩:=ha6 w' h
   go_simp
  refine tkZ 2 17 (.agg #[.slice q1 f.blocks[k].phis.length d1,.slice q2 f.blocks[k].list.length d2,.int .i64 f.blocks[k].fin.kind,.bool f.blocks[k].fin.onr,.int .i64 f.blocks[k].fin.onn,.slice q3 f.blocks[k].fin.to.length d3]) rfl rfl hS1 (fun w' h=>?_) ?_
  ·obtain ⟨h1,h2,h3,h4,h5⟩:=ha6 w' h
   have g0:=h2 0
   have g1:=h2 1
   have g2:=h2 2
   have g3:=h2 3
   have g4:=h2 4
   have g5:=h2 5
   go_simp
  have hw1:Below w.heap.size w w1.drew:=(HBw.out.trans (HBr.out.mono (by omega))).drew
  refine qm (i:=3) (by kernel_rfl) (qr 18 rfl rfl rfl (by go_simp) (J9 f.blocks[k] q1 q2 q3 d1 d2 d3 w1.drew (HR.out.2.2.1.mono hw1 (by omega) fun _ _ g=>g.below hw1) (HR.out.2.2.2.1.mono hw1 (by omega) fun _ _ g=>g.below hw1) (HR.out.2.2.2.2.mono hw1 (by omega) fun _ _ g=>g) HR.out.1 HR.out.2.1) ?_)
  rintro e w2 ⟨⟨p1,m1,p2,m2,p3,m3,rfl,T0,hT0,hkE⟩,hb2⟩
  obtain ⟨T,hT,hTi,hTs⟩:=hT0.tight
  have hTl:LoB w1.drew.heap.size T:=fun k h=>hkE k (hTs k h)
  clear hT0 hkE hTs
  have hb2:Below w1.heap.size w1 w2:=(Below.refl _ w1).drew.trans hb2
  have hTl:∀k,T k→w1.heap.size≤k:=hTl
  have hS2:Sp w2:=hSk (x:=w1) hdu (Kept.of_below (S:=fun _=>False) hb2) (fun h=>h) (fun h=>h)
  refine ⟨_,rfl,hS2,?_⟩
  have hO2:=HO.out.below qU (HBr.out.trans (hb2.mono (by omega)))
  have hz2:=hb2.size
  have HO2:=q8 hO2
  have HT2:=q8 hT
  have HTl:=q8 hTl
  have HTi:=q8 hTi
  have HB2:=q8 hb2
  clear hT hTl hTi hb2 hO2
  refine qm (i:=4) (by kernel_rfl) (qC 19 (.slice (some ⟨w2.heap.size,0,none⟩) 1 1) (w2.alloc (.cells #[.slice p1 f.blocks[k].phis.length m1,.slice p2 f.blocks[k].list.length m2,.int .i64 f.blocks[k].fin.kind,.bool f.blocks[k].fin.onr,.int .i64 f.blocks[k].fin.onn,.slice p3 f.blocks[k].fin.to.length m3] 49)) rfl rfl rfl (by go_simp) (hSk hS2 ((Kept.refl (fun _=>False) _).alloc _) (fun h=>h) (fun h=>h)) ?_)
  have hS3:Sp (w2.alloc (.cells #[.slice p1 f.blocks[k].phis.length m1,.slice p2 f.blocks[k].list.length m2,.int .i64 f.blocks[k].fin.kind,.bool f.blocks[k].fin.onr,.int .i64 f.blocks[k].fin.onn,.slice p3 f.blocks[k].fin.to.length m3] 49)):=hSk hS2 ((Kept.refl (fun _=>False) _).alloc _) (fun h=>h) (fun h=>h)
  refine qm (i:=5) (by kernel_rfl) (jV 20 _ _ 36 rfl rfl rfl rfl 49 iB _ 6 96 Tryz.underlying36 k1 k2 k3 k4 rfl (by decide) qU rfl (HO2.out.below qU ((Below.refl _ _).alloc (Nat.le_refl _) _)) ⟨w2.heap.size,0,none⟩ 1 [.slice p1 f.blocks[k].phis.length m1,.slice p2 f.blocks[k].list.length m2,.int .i64 f.blocks[k].fin.kind,.bool f.blocks[k].fin.onr,.int .i64 f.blocks[k].fin.onn,.slice p3 f.blocks[k].fin.to.length m3] f.blocks[k] rfl rfl ?hn ?ho (T:=T) ?hy ?ha ?ht ?hm ?hb ?_)
  case hn=>exact xt _ _ _ rfl
  case ho=>intro u hu;simp only [List.mem_cons,List.not_mem_nil,or_false] at hu;rcases hu with rfl|rfl|rfl|rfl|rfl|rfl<;>rfl
  case hy=>exact qU _ _ _ _ _ HT2.out (fun k hk=>Below.heap_alloc _ _ k (HTi.out k hk)) (by simp)
  case ha=>exact fun k h1 h2=>by have:=HO.out.inb k h1;have:=HTl.out k h2;omega
  case ht=>exact HTi.out.mono (by simp)
  case hm=>unfold maxLen;simp;omega
  case hb=>simp;omega
  intro v2 w4 ⟨S',hO4,hsub,hK4⟩
  obtain ⟨pv,cv,hv2,_⟩:=hO4.val
  have hlv:(f.blocks.take k++[f.blocks[k]]).length=k+1:=by simp;omega
  rw [hlv] at hv2
  subst hv2
  have hSn:∀i,i<W0.heap.size→¬ S i:=fun i hi h=>by have:=HL.out i h;omega
  have hhO:¬ S wr.heap.size:=fun h=>by have:=HO.out.inb _ h;omega
  have hS4:Sp w4:=hSk hS3 hK4 (hSn _ (by omega)) hhO
  refine ⟨hS4,?_⟩
  refine tkZ 6 21 (.pointer (some ⟨w.heap.size,3,none⟩)) rfl rfl hS4 (fun w' h=>?_) ?_
  ·obtain ⟨h1,h2,h3,h4,h5⟩:=ha6 w' h
   go_simp
  obtain ⟨h1,h2,h3,h4,h5⟩:=ha6 w4 hS4
  have h13:w4.cell? ⟨w.heap.size,3,none⟩=some (.slice p k c):=h1 3
  clear h1
  refine qm (i:=7) (by kernel_rfl) (qt (w4.setCell ⟨w.heap.size,3,none⟩ (.slice pv (k+1) cv)) rfl rfl rfl (by go_simp) (fun h=>absurd rfl h) (qI (by kernel_rfl) ?_ _))
  show Exit.inBlock 1 _ Exit.normal _ _
  have hrel:(∃S,SlO 49 6 BlkO (w4.setCell ⟨w.heap.size,3,none⟩ (.slice pv (k+1) cv)) (.slice pv (k+1) cv) (f.blocks.take (k+1)) S∧LoB W0.heap.size S)∧(w4.setCell ⟨w.heap.size,3,none⟩ (.slice pv (k+1) cv)).heap[w.heap.size]?=some (.cells #[.string f.name,.int .i64 f.params,.int .i64 f.regs,.slice pv (k+1) cv] 38 (0,0))∧Kept (fun k=>k=w.heap.size) W0 (w4.setCell ⟨w.heap.size,3,none⟩ (.slice pv (k+1) cv)):=by
   have hlo:LoB W0.heap.size S':=fun i hi=>by
    rcases hsub i hi with h|h|h
    ·exact HL.out i h
    ·have:=HTl.out i h;omega
    simp at h;omega
   have e4:w4.heap[w.heap.size]?=some (.cells #[.string f.name,.int .i64 f.params,.int .i64 f.regs,.slice p k c] 38 (0,0)):=by
    rw [hSp] at hS4
    exact hS4.1
   refine ⟨⟨S',?_,hlo⟩,?_,?_⟩
   ·rw [List.take_succ_eq_append_getElem hlt]
    exact hO4.loc qU (fun i hi=>Go.Deep.blk_setCell_other _ _ _ _ (fun e=>by have:=hlo i hi;have e2:i=w.heap.size:=e;omega)) (by simp [World.setCell])
   ·rw [qj e4 3 _]
    rfl
   have kA:Kept (fun k=>k=w.heap.size) W0 w2:=HK.out.trans (Kept.of_below (S:=fun _=>False) (HBr.out.trans (HB2.out.mono (by omega)))) (fun _ _ h=>h.elim)
   exact ((kA.alloc _).trans hK4 (fun i hi h=>absurd h (hSn i hi))).setCell rfl _
  have ha7:=q8 hrel
  clear hrel hS4 h2 h3 h4 h5 h13 hO4 hsub hK4 hS3 hS2
  go_wp2_with fail
  exact ⟨⟨k+1,.slice pv (k+1) cv,by omega,by go_num,ha7.out.1,ha7.out.2.1,ha7.out.2.2⟩,by simp [intOf];omega⟩

theorem JS:(Tryz.prog.info? 61).map (fun i=>(i.zero,i.size,i.bytes))=some (some (.agg #[.string { data:=#[] },.int .i64 0,.slice none 0 0]),3,48):=by kernel_rfl
theorem JT:(Tryz.prog.info? 38).map (fun i=>(i.zero,i.size,i.bytes))=some (some (.agg #[.string { data:=#[] },.int .i64 0,.int .i64 0,.slice none 0 0]),4,56):=by kernel_rfl
def UniO:ElemO UniL:=fun w cs x S=>∃v1 v2 S1 S2,cs=[v1,v2]∧SlQ 61 3 48 GloO w v1 x.globals S1∧SlQ 38 4 56 FunO w v2 x.funcs S2∧Apart S1 S2∧(∀k,S1 k→S k)∧∀k,S2 k→S k
theorem UniO.read {w:World} {cs:List Value} {x:UniL} {S:Blks} (h:UniO w cs x S):UniR w cs x:=by
 obtain ⟨v1,v2,S1,S2,h0,h1,h2,_⟩:=h
 exact ⟨v1,v2,h0,h1.read xD (by omega) fun _ _ _ h=>h.read,h2.read qV (by omega) fun _ _ _ h=>h.read⟩

theorem copy_any (u:UniL) (q1 q2:Option Addr) (e1 e2:Nat) (w:World) (hG:SlF w 3 48 (GloR w) (.slice q1 u.globals.length e1) u.globals) (hF:SlF w 4 56 (FunR w) (.slice q2 u.funcs.length e2) u.funcs) :
  Calls Tryz.prog 17 #[.agg #[.slice q1 u.globals.length e1,.slice q2 u.funcs.length e2]] w fun e w'=>(∃p1 c1 p2 c2,e = .returned (.agg #[.slice p1 u.globals.length c1,.slice p2 u.funcs.length c2])∧
   ∃S,UniO w' [.slice p1 u.globals.length c1,.slice p2 u.funcs.length c2] u S∧LoB w.heap.size S)∧Below w.heap.size w w':=by
 obtain ⟨iG,k1,k2,k3,k4⟩:=info_parts JS
 obtain ⟨iF,l1,l2,l3,l4⟩:=info_parts JT
 have hlg:u.globals.length*48≤140737488351232:=hG.bdC
 have hlf:u.funcs.length*56≤140737488351232:=hF.bdC
 have hGs:SliceAt w 3 (GloR w) q1 u.globals:=by
  obtain ⟨p,c,e,_,_,h⟩:=hG.outC
  cases e
  exact h
 have hFs:SliceAt w 4 (FunR w) q2 u.funcs:=by
  obtain ⟨p,c,e,_,_,h⟩:=hF.outC
  cases e
  exact h
 have HGs:=q8 hGs
 have HFs:=q8 hFs
 have HBd:=q8 (And.intro hG.bdC hF.bdC)
 clear hG hF hGs hFs
 go_enter Tryz.func17,Tryz.ntmps17
 go_wp2_with fail
 obtain ⟨W0,hW0⟩:∃W0,W0=((w.alloc (.cells #[.slice q1 u.globals.length e1,.slice q2 u.funcs.length e2] 25)).alloc (.cells #[.slice none 0 0,.slice none 0 0] 25)).alloc (.cells #[.slice none 0 0,.slice none 0 0] 25):=⟨_,rfl⟩
 rw [←hW0]
 have hz0:W0.heap.size=w.heap.size+1+1+1:=by rw [hW0];simp
 have HB0:Hid (Below w.heap.size w W0):=q8 (by rw [hW0];exact bZ)
 have HA:Hid (W0.heap[w.heap.size]?=some (.cells #[.slice q1 u.globals.length e1,.slice q2 u.funcs.length e2] 25 (0,0))):=q8 (by rw [hW0];exact qh (qh (qq rfl)))
 have HZ:Hid (W0.heap[w.heap.size+1]?=some (.cells #[.slice none 0 0,.slice none 0 0] 25 (0,0))):=q8 (by rw [hW0];exact qh (qq (by simp)))
 have HO0:Hid (W0.heap[w.heap.size+1+1]?=some (.cells #[.slice none 0 0,.slice none 0 0] 25 (0,0))):=q8 (by rw [hW0];exact qq (by simp))
 clear hW0
 go_loopw [12] (fun i wr=>∃(k:Nat) (v:Value),k≤u.globals.length∧i = .int .i64 k∧(∃S,SlO 61 3 GloO wr v (u.globals.take k) S∧LoB W0.heap.size S)∧wr.heap[w.heap.size+1+1]?=some (.cells #[v,.slice none 0 0] 25 (0,0))∧Kept (fun k=>k=w.heap.size+1+1) W0 wr) (fun i _=>u.globals.length - (intOf i).toNat)
 case atStart=>exact ⟨0,.slice none 0 0,by omega,rfl,⟨fun _=>False,SlO.nil _ _ _ _ (fun _ h=>h.elim),fun _ h=>h.elim⟩,HO0.out,Kept.refl _ _⟩
 case round=>
  obtain ⟨k,v,hk,rfl,⟨S,hO,hL⟩,hA,hK⟩:=hrel
  obtain ⟨p,c,hv,_⟩:=hO.val
  rw [List.length_take_of_le hk] at hv
  subst hv
  have HO:=q8 hO
  have HL:=q8 hL
  have HK:=q8 hK
  have HA1:=q8 hA
  have hsz:=hK.size
  have HBw:Hid (Below w.heap.size w wr):=HB0.out.trans (hK.below (by omega) (fun _ e=>by omega))
  clear hO hL hK hA
  by_cases hlt:k<u.globals.length
  ·obtain ⟨bp,op,cs,hp,_,hc,b0,rfl,b3,b4,b5⟩:=HGs.out.get hlt
   subst hp
   obtain ⟨qi,di,rfl,hq0,_,hql,hqs⟩:=b5
   have hc0:=hc 0 (by omega)
   have hbp:=q9 hc0
   have c0:=(HBw.out.cell (p:=⟨bp,_,none⟩) hbp).trans hc0
   have c1:=(HBw.out.cell (p:=⟨bp,_,none⟩) hbp).trans (hc 1 (by omega))
   have c2:=(HBw.out.cell (p:=⟨bp,_,none⟩) hbp).trans (hc 2 (by omega))
   simp only [List.getElem?_cons_zero,List.getElem?_cons_succ,Nat.add_zero] at c0 c1 c2
   have HQ:=q8 (And.intro hq0 (And.intro hql (And.intro hqs (And.intro b3 b4))))
   clear hc hc0 b3 b4 hq0 hql hqs
   go_wp2_with fail
   refine (vw u.globals[k].init qi di _ (HQ.out.2.2.1.mono (HBw.out.trans bZ) (by omega) fun _ _ g=>g) HQ.out.1 HQ.out.2.1).mono ?_
   rintro e w5 ⟨p',c',rfl,⟨S2,hS2,hL2⟩,hb5⟩
   have hr5:Below wr.heap.size wr w5:=Below.trans bZ (hb5.mono (by simp))
   have hu:=qg hb5 (k:=wr.heap.size) (by simp) (qx wr _)
   obtain ⟨hu0,hu1⟩:=blk hu
   have zu:=(Array.getElem?_eq_some_iff.1 hu).1
   have hoz:=qd HA1.out
   have hA5:=qg hr5 (k:=w.heap.size+1+1) hoz HA1.out
   have ho0:w5.cell? ⟨w.heap.size+1+1,0,none⟩=some (.slice p k c):=(blk hA5).1 0
   have hof:=(blk hA5).2
   have zo:=qd hA5
   have HA5:=q8 hA5
   have HU5:=q8 hu
   have hL2':∀k,S2 k→wr.heap.size+1≤k:=fun k h=>by have:=hL2 k h;simpa using this
   have HS2:=q8 hS2
   have HL2:=q8 hL2'
   have HR5:=q8 hr5
   have hkC:=hr5.size
   have hne:w.heap.size+1+1≠wr.heap.size:=by omega
   clear hb5 hr5 hu hS2 hL2 hL2' hA5
   have hN5:¬ S wr.heap.size:=fun h=>by have:=HO.out.inb _ h;omega
   have hN2:¬ S2 wr.heap.size:=fun h=>by have:=HL2.out _ h;omega
   have HO5:=q8 ((HO.out.below xD HR5.out).set_alloc xD (n:=wr.heap.size) (j:=2) hN5 (.slice p' u.globals[k].init.length c') (.cells #[.string u.globals[k].name,.int .i64 u.globals[k].size,.slice p' u.globals[k].init.length c'] 61))
   have HS5:=q8 (HS2.out.set_alloc xe (n:=wr.heap.size) (j:=2) hN2 (.slice p' u.globals[k].init.length c') (.cells #[.string u.globals[k].name,.int .i64 u.globals[k].size,.slice p' u.globals[k].init.length c'] 61))
   have hA8:((w5.setCell ⟨wr.heap.size,2,none⟩ (.slice p' u.globals[k].init.length c')).alloc (.cells #[.string u.globals[k].name,.int .i64 u.globals[k].size,.slice p' u.globals[k].init.length c'] 61)).heap[w.heap.size+1+1]?=some (.cells #[.slice p k c,.slice none 0 0] 25 (0,0)):=
    qh ((Go.Deep.blk_setCell_other w5 ⟨wr.heap.size,2,none⟩ _ (w.heap.size+1+1) hne).trans HA5.out)
   have HA8:=q8 hA8
   clear hN5 hN2 hA8
   go_wp2_with (at_builtin;refine zw _ rfl _ _ 22 rfl 61 iG _ 3 48 Tryz.underlying22 k1 k2 k3 k4 rfl (by decide) xD rfl HO5.out ⟨w5.heap.size,0,none⟩ 1 [.string u.globals[k].name,.int .i64 u.globals[k].size,.slice p' u.globals[k].init.length c'] u.globals[k] rfl rfl ?hn ?ho (T:=S2) ⟨_,rfl,HQ.out.2.2.2.1,HQ.out.2.2.2.2,HS5.out⟩ ?ha ?ht ?hm ?hb ?_)
   case hn=>exact xt _ _ _ (by simp [World.setCell])
   case ho=>intro u hu;simp only [List.mem_cons,List.not_mem_nil,or_false] at hu;rcases hu with rfl|rfl|rfl<;>rfl
   case ha=>exact fun k h1 h2=>by have:=HO.out.inb k h1;have:=HL2.out k h2;omega
   case ht=>exact HS2.out.sl.inb.set_alloc _ _ _
   case hm=>unfold maxLen;simp;omega
   case hb=>simp;omega
   intro v2 w8 ⟨S',hO8,hsub,hK8⟩
   obtain ⟨pv,cv,hv2,_⟩:=hO8.val
   have hv3:v2 = .slice pv (k+1) cv:=by rw [hv2];congr 1;simp;omega
   clear hv2
   subst hv3
   have hSn:∀i,i<W0.heap.size→¬ S i:=fun i hi h=>by have:=HL.out i h;omega
   have hA9:=(hK8.block (w.heap.size+1+1) (qd HA8.out) (hSn _ (by omega))).trans HA8.out
   have ho0:w8.cell? ⟨w.heap.size+1+1,0,none⟩=some (.slice p k c):=(blk hA9).1 0
   have hof:=(blk hA9).2
   have zo:=qd hA9
   have hrel:(∃S,SlO 61 3 GloO (w8.setCell ⟨w.heap.size+1+1,0,none⟩ (.slice pv (k+1) cv)) (.slice pv (k+1) cv) (u.globals.take (k+1)) S∧LoB W0.heap.size S)∧(w8.setCell ⟨w.heap.size+1+1,0,none⟩ (.slice pv (k+1) cv)).heap[w.heap.size+1+1]?=some (.cells #[.slice pv (k+1) cv,.slice none 0 0] 25 (0,0))∧Kept (fun k=>k=w.heap.size+1+1) W0 (w8.setCell ⟨w.heap.size+1+1,0,none⟩ (.slice pv (k+1) cv)):=by
    have hlo:LoB W0.heap.size S':=fun i hi=>by
     rcases hsub i hi with h|h|h
     ·exact HL.out i h
     ·have:=HL2.out i h;omega
     simp [World.setCell] at h;omega
    refine ⟨⟨S',?_,hlo⟩,?_,?_⟩
    ·have hO9:SlO 61 3 GloO w8 (.slice pv (k+1) cv) (u.globals.take (k+1)) S':=by first|exact hO8|(rw [List.take_succ_eq_append_getElem hlt];exact hO8)
     exact hO9.loc xD (fun i hi=>Go.Deep.blk_setCell_other _ _ _ _ (fun e=>by have:=hlo i hi;have e2:i=w.heap.size+1+1:=e;omega)) (by simp [World.setCell])
    ·rw [qj hA9 0 _]
     rfl
    have kA:Kept (fun k=>k=w.heap.size+1+1) W0 ((w5.setCell ⟨wr.heap.size,2,none⟩ (.slice p' u.globals[k].init.length c')).alloc (.cells #[.string u.globals[k].name,.int .i64 u.globals[k].size,.slice p' u.globals[k].init.length c'] 61)):=HK.out.trans (Kept.of_below (S:=fun _=>False) ((HR5.out.setCell (by simp) _).alloc (by simp [World.setCell];omega) _)) (fun _ _ h=>h.elim)
    exact (kA.trans hK8 (fun i hi h=>absurd h (hSn i hi))).setCell rfl _
   have ha7:=q8 hrel
   clear hA9 hO8 hsub hK8 hrel
   go_wp2_with fail
   exact ⟨⟨k+1,.slice pv (k+1) cv,by omega,by go_num,ha7.out.1,ha7.out.2.1,ha7.out.2.2⟩,by simp [intOf];omega⟩
  obtain rfl:k=u.globals.length:=by omega
  rw [List.take_length] at HO
  obtain ⟨W1,hW1⟩:∃W1,W1=wr:=⟨_,rfl⟩
  obtain ⟨S1,hS1⟩:∃S1,S1=S:=⟨_,rfl⟩
  rw [←hW1]
  rw [←hW1,←hS1] at HO
  rw [←hW1] at HK HA1 hsz HBw
  rw [←hS1] at HL
  have HOg:=q8 HO.out
  have HLg:=q8 HL.out
  have HK1:=q8 HK.out
  have HB1:=q8 HBw.out
  have HA2:=q8 HA1.out
  have hA:=(HK1.out.block w.heap.size (by omega) (by omega)).trans HA.out
  have k1c:W1.cell? ⟨w.heap.size,1,none⟩=some (.slice q2 u.funcs.length e2):=(blk hA).1 1
  have zz1:w.heap.size<W1.heap.size:=by omega
  clear HO HL HK HBw HA1 hW1 hS1 hA
  go_wp2_with fail
  obtain ⟨vg,hvg⟩:∃vg,vg=Value.slice p u.globals.length c:=⟨_,rfl⟩
  go_loopw [30] (fun i wr=>∃(k:Nat) (v:Value),k≤u.funcs.length∧i = .int .i64 k∧(∃S,SlO 38 4 FunO wr v (u.funcs.take k) S∧LoB W1.heap.size S)∧wr.heap[w.heap.size+1+1]?=some (.cells #[vg,v] 25 (0,0))∧Kept (fun k=>k=w.heap.size+1+1) W1 wr) (fun i _=>u.funcs.length - (intOf i).toNat)
  case atStart=>exact ⟨0,.slice none 0 0,by omega,rfl,⟨fun _=>False,SlO.nil _ _ _ _ (fun _ h=>h.elim),fun _ h=>h.elim⟩,by rw [hvg];exact HA2.out,Kept.refl _ _⟩
  case round=>
   obtain ⟨k,v,hk,rfl,⟨S,hO,hL⟩,hA,hK⟩:=hrel
   obtain ⟨pf,cf,hv,_⟩:=hO.val
   rw [List.length_take_of_le hk] at hv
   subst hv
   have HO:=q8 hO
   have HL:=q8 hL
   have HK:=q8 hK
   have HA1:=q8 hA
   have hsz1:=hK.size
   have HBw:Hid (Below w.heap.size w wr):=HB1.out.trans (hK.below (by omega) (fun _ e=>by omega))
   clear hO hL hK hA
   by_cases hlt:k<u.funcs.length
   rotate_left
   ·obtain rfl:k=u.funcs.length:=by omega
    rw [List.take_length] at HO
    subst hvg
    have r0:wr.cell? ⟨w.heap.size+1+1,0,none⟩=some (.slice p u.globals.length c):=(blk HA1.out).1 0
    have r1:wr.cell? ⟨w.heap.size+1+1,1,none⟩=some (.slice pf u.funcs.length cf):=(blk HA1.out).1 1
    have hZ:=(HK.out.block (w.heap.size+1) (by omega) (by omega)).trans ((HK1.out.block (w.heap.size+1) (by omega) (by omega)).trans HZ.out)
    have rz0:wr.cell? ⟨w.heap.size+1,0,none⟩=some (.slice none 0 0):=(blk hZ).1 0
    have rz1:wr.cell? ⟨w.heap.size+1,1,none⟩=some (.slice none 0 0):=(blk hZ).1 1
    have rf:=(blk hZ).2
    have hzl:=qd hZ
    go_wp2_with fail
    obtain ⟨WF,hWF⟩:∃WF,WF=(wr.setCell ⟨w.heap.size+1,0,none⟩ (.slice p u.globals.length c)).setCell ⟨w.heap.size+1,1,none⟩ (.slice pf u.funcs.length cf):=⟨_,rfl⟩
    rw [←hWF]
    have hF1:WF.heap[w.heap.size+1]?=some (.cells #[.slice p u.globals.length c,.slice pf u.funcs.length cf] 25 (0,0)):=by
     rw [hWF,qj (qj hZ 0 _) 1 _]
     rfl
    have hFo:∀k,k≠w.heap.size+1→WF.heap[k]?=wr.heap[k]?:=fun k h1=>by
     rw [hWF]
     repeat rw [Go.Deep.blk_setCell_other _ _ _ _ (by assumption)]
    have hFs:WF.heap.size=wr.heap.size:=by rw [hWF];simp [World.setCell]
    have hFb:Below w.heap.size w WF:=by
     rw [hWF]
     exact (HBw.out.setCell (by simp) _).setCell (by simp) _
    clear hWF
    have k0:=(blk hF1).1 0
    have k1':=(blk hF1).1 1
    have hG:=(HOg.out.kept xD HK.out (fun i e hi=>by have:=HLg.out i hi;omega)).loc (w':=WF) xD (fun i hi=>hFo i (fun e=>by have:=HLg.out i hi;omega)) (by omega)
    have hF:=HO.out.loc (w':=WF) qV (fun i hi=>hFo i (fun e=>by have:=HL.out i hi;omega)) (by omega)
    refine bodyPost_ret (v:=.agg #[.slice p u.globals.length c,.slice pf u.funcs.length cf]) ?_ rfl ⟨⟨p,c,pf,cf,rfl,fun k=>S1 k∨S k,⟨_,_,S1,S,rfl,⟨hG,HBd.out.1⟩,⟨hF,HBd.out.2⟩,fun i h1 h2=>?_,fun _ h=>.inl h,fun _ h=>.inr h⟩,fun i hi=>?_⟩,hFb⟩
    ·simp [results,Tryz.results17,go_sem,k0,k1']
    ·have:=HOg.out.inb i h1;have:=HL.out i h2;omega
    rcases hi with h|h
    ·have:=HLg.out i h;omega
    have:=HL.out i h;omega
   obtain ⟨bp,op,cs,hp,_,hc,b0,rfl,b3,b4,b5,b6⟩:=HFs.out.get hlt
   subst hp
   obtain ⟨q3,d3,rfl,_⟩:=b6.outC
   have hc0:=hc 0 (by omega)
   have hbp:=q9 hc0
   have c0:=(HBw.out.cell (p:=⟨bp,_,none⟩) hbp).trans hc0
   have c1:=(HBw.out.cell (p:=⟨bp,_,none⟩) hbp).trans (hc 1 (by omega))
   have c2:=(HBw.out.cell (p:=⟨bp,_,none⟩) hbp).trans (hc 2 (by omega))
   have c3:=(HBw.out.cell (p:=⟨bp,_,none⟩) hbp).trans (hc 3 (by omega))
   simp only [List.getElem?_cons_zero,List.getElem?_cons_succ,Nat.add_zero] at c0 c1 c2 c3
   have HR:=q8 (And.intro b3 (And.intro b4 (And.intro b5 b6)))
   clear hc hc0 b3 b4 b5 b6
   go_wp2_with fail
   obtain ⟨w1,hw1⟩:∃w1,w1=wr.alloc (.cells #[.string u.funcs[k].name,.int .i64 u.funcs[k].params,.int .i64 u.funcs[k].regs,.slice q3 u.funcs[k].blocks.length d3] 38):=⟨_,rfl⟩
   rw [←hw1]
   have hz1:w1.heap.size=wr.heap.size+1:=by rw [hw1];simp
   have HBr:Hid (Below wr.heap.size wr w1):=q8 (by rw [hw1];exact bZ)
   have HX1:Hid (w1.heap[wr.heap.size]?=some (.cells #[.string u.funcs[k].name,.int .i64 u.funcs[k].params,.int .i64 u.funcs[k].regs,.slice q3 u.funcs[k].blocks.length d3] 38 (0,0))):=q8 (by rw [hw1];exact qq rfl)
   clear hw1
   have hzA:w.heap.size+1+1<wr.heap.size:=by omega
   obtain ⟨Sp,hSp⟩:∃Sp:World→Prop,Sp=fun w'=>w'.heap[w.heap.size+1+1]?=some (.cells #[vg,.slice pf k cf] 25 (0,0))∧w'.heap[wr.heap.size]?=some (.cells #[.string u.funcs[k].name,.int .i64 u.funcs[k].params,.int .i64 u.funcs[k].regs,.slice q3 u.funcs[k].blocks.length d3] 38 (0,0)):=⟨_,rfl⟩
   have ha6:∀w',Sp w'→(w'.cell? ⟨w.heap.size+1+1,1,none⟩=some (.slice pf k cf))∧(∀j,w'.cell? ⟨wr.heap.size,j,none⟩=(#[.string u.funcs[k].name,.int .i64 u.funcs[k].params,.int .i64 u.funcs[k].regs,.slice q3 u.funcs[k].blocks.length d3]:Array Value)[j]?)∧w.heap.size+1+1<w'.heap.size∧wr.heap.size<w'.heap.size∧w'.frozen? ⟨w.heap.size+1+1,1,none⟩=false:=fun w' h=>by
    rw [hSp] at h
    exact ⟨(blk h.1).1 1,(blk h.2).1,qd h.1,qd h.2,(blk h.1).2 1⟩
   have hSk:∀{U:Blks} {x y:World},Sp x→Kept U x y→¬ U (w.heap.size+1+1)→¬ U wr.heap.size→Sp y:=fun {U x y} h hk n1 n2=>by
    rw [hSp] at h ⊢
    exact ⟨(hk.block _ (qd h.1) n1).trans h.1,(hk.block _ (qd h.2) n2).trans h.2⟩
   have hdu:Sp w1:=by
    rw [hSp]
    exact ⟨(HBr.out.block _ hzA).trans HA1.out,HX1.out⟩
   have hS1:Sp w1.drew:=by
    rw [hSp] at hdu ⊢
    exact hdu
   refine qz (S:=Sp) (by kernel_rfl) 7 ?_
   refine tkZ 0 34 (.pointer (some ⟨w.heap.size+1+1,1,none⟩)) rfl rfl hS1 (fun w' h=>?_) ?_
   ·obtain ⟨h1,h2,h3,h4,h5⟩:=ha6 w' h
    go_simp
   refine tkZ 1 35 (.slice pf k cf) rfl rfl hS1 (fun w' h=>?_) ?_
   ·obtain ⟨h1,h2,h3,h4,h5⟩:=ha6 w' h
    go_simp
   refine tkZ 2 36 (.agg #[.string u.funcs[k].name,.int .i64 u.funcs[k].params,.int .i64 u.funcs[k].regs,.slice q3 u.funcs[k].blocks.length d3]) rfl rfl hS1 (fun w' h=>?_) ?_
   ·obtain ⟨h1,h2,h3,h4,h5⟩:=ha6 w' h
    have g0:=h2 0
    have g1:=h2 1
    have g2:=h2 2
    have g3:=h2 3
    go_simp
   have hw1:Below w.heap.size w w1.drew:=(HBw.out.trans (HBr.out.mono (by omega))).drew
   refine qm (i:=3) (by kernel_rfl) (qr 37 rfl rfl rfl (by go_simp) (Jd u.funcs[k] q3 d3 w1.drew HR.out.1 HR.out.2.1 HR.out.2.2.1 (HR.out.2.2.2.mono hw1 (by omega) fun _ _ g=>g.below hw1)) ?_)
   rintro e w2 ⟨⟨p1,m1,rfl,T,hT,hTl⟩,hb2⟩
   have hTi:InB w2 T:=by
    obtain ⟨_,_,_,_,_,h⟩:=hT
    exact h.sl.inb
   have hb2:Below w1.heap.size w1 w2:=(Below.refl _ w1).drew.trans hb2
   have hTl:∀k,T k→w1.heap.size≤k:=hTl
   have hS2:Sp w2:=hSk (x:=w1) hdu (Kept.of_below (S:=fun _=>False) hb2) (fun h=>h) (fun h=>h)
   refine ⟨_,rfl,hS2,?_⟩
   have hO2:=HO.out.below qV (HBr.out.trans (hb2.mono (by omega)))
   have hz2:=hb2.size
   have HO2:=q8 hO2
   have HT2:=q8 hT
   have HTl:=q8 hTl
   have HTi:=q8 hTi
   have HB2:=q8 hb2
   clear hT hTl hTi hb2 hO2
   have hS3:Sp (w2.alloc (.cells #[.string u.funcs[k].name,.int .i64 u.funcs[k].params,.int .i64 u.funcs[k].regs,.slice p1 u.funcs[k].blocks.length m1] 38)):=hSk hS2 ((Kept.refl (fun _=>False) _).alloc _) (fun h=>h) (fun h=>h)
   refine qm (i:=4) (by kernel_rfl) (qC 38 (.slice (some ⟨w2.heap.size,0,none⟩) 1 1) (w2.alloc (.cells #[.string u.funcs[k].name,.int .i64 u.funcs[k].params,.int .i64 u.funcs[k].regs,.slice p1 u.funcs[k].blocks.length m1] 38)) rfl rfl rfl (by go_simp) hS3 ?_)
   refine qm (i:=5) (by kernel_rfl) (jV 39 _ _ 23 rfl rfl rfl rfl 38 iF _ 4 56 Tryz.underlying23 l1 l2 l3 l4 rfl (by decide) qV rfl (HO2.out.below qV ((Below.refl _ _).alloc (Nat.le_refl _) _)) ⟨w2.heap.size,0,none⟩ 1 [.string u.funcs[k].name,.int .i64 u.funcs[k].params,.int .i64 u.funcs[k].regs,.slice p1 u.funcs[k].blocks.length m1] u.funcs[k] rfl rfl ?hn ?ho (T:=T) ?hy ?ha ?ht ?hm ?hb ?_)
   case hn=>exact xt _ _ _ rfl
   case ho=>intro u hu;simp only [List.mem_cons,List.not_mem_nil,or_false] at hu;rcases hu with rfl|rfl|rfl|rfl<;>rfl
   case hy=>exact qV _ _ _ _ _ HT2.out (fun k hk=>Below.heap_alloc _ _ k (HTi.out k hk)) (by simp)
   case ha=>exact fun k h1 h2=>by have:=HO.out.inb k h1;have:=HTl.out k h2;omega
   case ht=>exact HTi.out.mono (by simp)
   case hm=>unfold maxLen;simp;omega
   case hb=>simp;omega
   intro v2 w4 ⟨S',hO4,hsub,hK4⟩
   obtain ⟨pv,cv,hv2,_⟩:=hO4.val
   have hv3:v2 = .slice pv (k+1) cv:=by rw [hv2];congr 1;simp;omega
   clear hv2
   subst hv3
   have hSn:∀i,i<W1.heap.size→¬ S i:=fun i hi h=>by have:=HL.out i h;omega
   have hhO:¬ S wr.heap.size:=fun h=>by have:=HO.out.inb _ h;omega
   have hS4:Sp w4:=hSk hS3 hK4 (hSn _ (by omega)) hhO
   refine ⟨hS4,?_⟩
   refine tkZ 6 40 (.pointer (some ⟨w.heap.size+1+1,1,none⟩)) rfl rfl hS4 (fun w' h=>?_) ?_
   ·obtain ⟨h1,h2,h3,h4,h5⟩:=ha6 w' h
    go_simp
   obtain ⟨h1,h2,h3,h4,h5⟩:=ha6 w4 hS4
   clear h2
   refine qm (i:=7) (by kernel_rfl) (qt (w4.setCell ⟨w.heap.size+1+1,1,none⟩ (.slice pv (k+1) cv)) rfl rfl rfl (by go_simp) (fun h=>absurd rfl h) (qI (by kernel_rfl) ?_ _))
   show Exit.inBlock 3 _ Exit.normal _ _
   have hrel:(∃S,SlO 38 4 FunO (w4.setCell ⟨w.heap.size+1+1,1,none⟩ (.slice pv (k+1) cv)) (.slice pv (k+1) cv) (u.funcs.take (k+1)) S∧LoB W1.heap.size S)∧(w4.setCell ⟨w.heap.size+1+1,1,none⟩ (.slice pv (k+1) cv)).heap[w.heap.size+1+1]?=some (.cells #[vg,.slice pv (k+1) cv] 25 (0,0))∧Kept (fun k=>k=w.heap.size+1+1) W1 (w4.setCell ⟨w.heap.size+1+1,1,none⟩ (.slice pv (k+1) cv)):=by
    have hlo:LoB W1.heap.size S':=fun i hi=>by
     rcases hsub i hi with h|h|h
     ·exact HL.out i h
     ·have:=HTl.out i h;omega
     simp at h;omega
    have e4:w4.heap[w.heap.size+1+1]?=some (.cells #[vg,.slice pf k cf] 25 (0,0)):=by
     rw [hSp] at hS4
     exact hS4.1
    refine ⟨⟨S',?_,hlo⟩,?_,?_⟩
    ·have hO9:SlO 38 4 FunO w4 (.slice pv (k+1) cv) (u.funcs.take (k+1)) S':=by first|exact hO4|(rw [List.take_succ_eq_append_getElem hlt];exact hO4)
     exact hO9.loc qV (fun i hi=>Go.Deep.blk_setCell_other _ _ _ _ (fun e=>by have:=hlo i hi;have e2:i=w.heap.size+1+1:=e;omega)) (by simp [World.setCell])
    ·rw [qj e4 1 _]
     rfl
    have kA:Kept (fun k=>k=w.heap.size+1+1) W1 w2:=HK.out.trans (Kept.of_below (S:=fun _=>False) (HBr.out.trans (HB2.out.mono (by omega)))) (fun _ _ h=>h.elim)
    exact ((kA.alloc _).trans hK4 (fun i hi h=>absurd h (hSn i hi))).setCell rfl _
   have ha7:=q8 hrel
   clear hrel hS4 h1 h3 h4 h5 hO4 hsub hK4 hS3 hS2
   go_wp2_with fail
   exact ⟨⟨k+1,.slice pv (k+1) cv,by omega,by go_num,ha7.out.1,ha7.out.2.1,ha7.out.2.2⟩,by simp [intOf];omega⟩
end Go.Proofs.YtgjjhadbjmcnpaaGreatDoor
