/-
  Plain: what the walk of graph.Each speaks of.
-/
import Derived.Test.YtecdphhdmjmmnaaGreatDoorLivH
import Derived.Test.YtecdphhdmjmmnaaGreatDoorJSrtF
set_option maxRecDepth 100000
set_option maxHeartbeats 16000000
namespace Go.Proofs.YtecdphhdmjmmnaaGreatDoor
open Go.RowKit

def xT (s:SetL) (k:Nat):List Int:=((List.range k).filter fun r=>inS s r).map fun r:Nat=>(r:Int)
theorem Kb (s:SetL) (k:Nat):xT s (k+1)=if inS s k=true then xT s k++[(k:Int)]else xT s k:=by
 unfold xT
 rw[List.range_succ,List.filter_append,List.map_append]
 cases e:inS s k<;>simp[e]
theorem J6 (s:SetL) (k:Nat):(xT s k).length≤k:=by
 unfold xT
 rw[List.length_map]
 exact Nat.le_trans (List.length_filter_le _ _) (by simp)
theorem infoIntL:(Tryz.prog.info? 3).map (fun i=>(i.zero,i.size,i.bytes))=some (some (.int .i64 0),1,8):=by kernel_rfl
theorem JL (g c:Nat) (s:SetL) (w:World) (h:SetAt w g s) (hs:s.length≤1000) :
  Calls Tryz.prog 121 #[.slice (some ⟨g,0,none⟩) s.length c] w fun e w'=>(∃p c',e = .returned (.slice p (xT s s.length).length c')∧∃S,SlO 3 1 kP w' (.slice p (xT s s.length).length c') (xT s s.length) S∧LoB w.heap.size S)∧Below w.heap.size w w':=by
 obtain⟨i1,k1,k2,k3,k4⟩:=info_parts infoIntL
 have H:=q7 h
 obtain⟨n,hn⟩:∃n,n=s.length:=⟨_,rfl⟩
 have HN:=q7 hn
 rw[←hn]at hs ⊢
 clear h hn
 go_enter Tryz.func121,Tryz.ntmps121
 go_wp2
 go_loopg [3,8] n (fun m v i wr=>∃k:Nat,k≤n∧m=n - k∧i = .int .i64 k∧(∃S,SlO 3 1 kP wr v (xT s k) S∧LoB w.heap.size S)∧Below w.heap.size w wr)
 case atStart=>exact⟨0,by omega,rfl,rfl,⟨fun _=>False,SlO.nil _ _ _ _ fun _ h=>h.elim,fun _ h=>h.elim⟩,Below.refl _ _⟩
 case round=>
  obtain⟨k,hk,rfl,rfl,⟨S,hO,hL⟩,hb⟩:=hrel
  have HL:=q7 hL
  have HO:=q7 hO
  have HB:=q7 hb
  have hzr:=hb.size
  have hlen:=J6 s k
  clear hO hb hL
  by_cases hlt:k<n
  rotate_left
  ·obtain rfl:k=n:=by omega
   obtain⟨p,c',hv,_,_⟩:=HO.out.val
   subst hv
   go_wp2_with fail
   go_ret
   exact⟨⟨p,c',rfl,S,HO.out,HL.out⟩,HB.out⟩
  have hz:=H.out.lt
  have e1:wr.cell? ⟨g,k,none⟩=some (.bool (inS s k)):=(HB.out.cell (p:=⟨g,k,none⟩) hz).trans (H.out.cell k (by have:=HN.out;omega))
  have zg:=q8 e1
  have hsc:=Kb s k
  have HSc:=q7 hsc
  clear hsc
  obtain⟨a,ha⟩:∃a,a=inS s k:=⟨_,rfl⟩
  rw[←ha]at e1 HSc
  clear ha
  cases a
  ·have hsc:=HSc.out
   simp only[Bool.false_eq_true,if_false]at hsc
   have HSc:=q7 hsc
   clear hsc
   go_wp2_with fail
   go_roundg (n - (k+1))
   case measure=>omega
   case rel=>exact⟨k+1,by omega,rfl,by go_num,⟨S,by rw[HSc.out];exact HO.out,HL.out⟩,HB.out⟩
  have hsc:=HSc.out
  rw[if_pos (by first|rfl|trivial)]at hsc
  have HSc:=q7 hsc
  clear hsc
  go_wp2_with (at_builtin;refine qD _ rfl _ _ 44 rfl 3 i1 _ 1 8 Tryz.underlying44 k1 k2 k3 k4 rfl (by decide) qT rfl (HO.out.below qT ((Below.refl _ wr).alloc (Nat.le_refl _) _)) ⟨wr.heap.size,0,none⟩ 1 [.int .i64 k] (k:Int) rfl rfl (xq _ _ _ _ rfl) ?ho (T:=fun _=>False) ⟨rfl,(by unfold I64;omega)⟩ ?ha ?ht ?hm ?hb ?_)
  case ho=>first|(intro u hu;rw[List.mem_singleton.1 hu];rfl)|rfl
  case ha=>exact fun _ _ h=>h
  case ht=>exact fun _ h=>h.elim
  case hm=>unfold maxLen;omega
  case hb=>omega
  intro v' w' hsn
  obtain⟨S',hS',hsub,hkp⟩:=hsn
  have HS':=q7 hS'
  have HL':Hid (LoB w.heap.size S'):=q7 fun i hi=>by
   rcases hsub i hi with h|h|h
   ·exact HL.out i h
   ·exact h.elim
   simp at h;omega
  have HB':Hid (Below w.heap.size w w'):=q7 ((HB.out.trans (((Below.refl _ wr).alloc (Nat.le_refl _) _).mono hzr)).trans (hkp.below (by simp;omega) HL.out))
  clear hS' hsub hkp e1
  go_wp2_with fail
  go_roundg (n - (k+1))
  case measure=>omega
  case rel=>exact⟨k+1,by omega,rfl,by go_num,⟨S',by rw[HSc.out];exact HS'.out,HL'.out⟩,HB'.out⟩

def RowO:ElemO (List Int):=fun w cs xs S=>∃p c,cs=[.slice p xs.length c]∧SlO 3 1 kP w (.slice p xs.length c) xs S
theorem J7:jN RowO:=fun _ _ _ _ _ ⟨p,c,e,h⟩ hk hs=>⟨p,c,e,h.loc qT hk hs⟩
theorem infoRowL:(Tryz.prog.info? 44).map (fun i=>(i.zero,i.size,i.bytes))=some (some (.slice none 0 0),1,24):=by kernel_rfl
theorem lists_any (L I R ic:Nat) (ins:List SetL) (gs:Nat→Nat) (w:World) (h:InsAt w L I R ins gs) (hR:R≤1000) (hn:ins.length≤1000) :
  Calls Tryz.prog 82 #[.slice (some ⟨I,0,none⟩) ins.length ic] w fun e w'=>(∃v,e = .returned v∧∃S,SlO 44 1 RowO w' v (ins.map fun s=>xT s R) S∧LoB w.heap.size S)∧Below w.heap.size w w':=by
 obtain⟨i1,k1,k2,k3,k4⟩:=info_parts infoRowL
 have H:=q7 h
 obtain⟨n,hn2⟩:∃n,n=ins.length:=⟨_,rfl⟩
 have HN:=q7 hn2
 rw[←hn2]at hn ⊢
 clear h hn2
 go_enter Tryz.func82,Tryz.ntmps82
 go_wp2
 go_loopg [3,8] n (fun m v i wr=>∃k:Nat,k≤n∧m=n - k∧i = .int .i64 k∧(∃S,SlO 44 1 RowO wr v ((ins.map fun s=>xT s R).take k) S∧LoB w.heap.size S)∧Below w.heap.size w wr)
 case atStart=>exact⟨0,by omega,rfl,rfl,⟨fun _=>False,SlO.nil _ _ _ _ fun _ h=>h.elim,fun _ h=>h.elim⟩,Below.refl _ _⟩
 case round=>
  obtain⟨wp,hwp⟩:∃wp,wp=wr:=⟨_,rfl⟩
  subst hwp
  obtain⟨k,hk,rfl,rfl,⟨S,hO,hL⟩,hb⟩:=hrel
  have HL:=q7 hL
  have HO:=q7 hO
  have HB:=q7 hb
  have hzr:=hb.size
  clear hO hb hL
  by_cases hlt:k<n
  rotate_left
  ·obtain rfl:k=n:=by omega
   have hall:(ins.map fun s=>xT s R).take k=ins.map fun s=>xT s R:=List.take_of_length_le (by rw[List.length_map];have:=HN.out;omega)
   have hpN:=q7 hall
   clear hall
   go_wp2_with fail
   go_ret
   refine⟨⟨_,rfl,S,?_,HL.out⟩,HB.out⟩
   have:=HO.out
   rw[hpN.out]at this
   exact this
  have hki:k<ins.length:=by have:=HN.out;omega
  have hIn:=H.out.below HB.out
  obtain⟨c,hc⟩:=hIn.cell k hki
  obtain⟨hs,hsl⟩:=hIn.set k hki
  have hgz:=q8 hc
  have hli:=JL (gs k) c (ins.getD k []) wp hs (by omega)
  rw[hsl]at hli
  have HLi:=q7 hli
  have hnx:(ins.map fun s=>xT s R).take (k+1)=(ins.map fun s=>xT s R).take k++[xT (ins.getD k []) R]:=by
   rw[List.take_succ_eq_append_getElem (by simpa using hki),List.getElem_map,List.getD_eq_getElem?_getD,List.getElem?_eq_getElem hki]
   rfl
  have HNx:=q7 hnx
  have hlen:((ins.map fun s=>xT s R).take k).length=k:=by rw[List.length_take,List.length_map];omega
  clear hIn hs hsl hli hnx
  obtain⟨row,hrow⟩:∃row,row=xT (ins.getD k []) R:=⟨_,rfl⟩
  rw[←hrow]at HLi HNx
  clear hrow
  go_wp2_with (first|(go_at_call 121;refine HLi.out.mono ?_;rintro e w3 ⟨⟨p3,c3,rfl,S3,hS3,hL3⟩,hb3⟩;have HS3:=q7 hS3;have HL3:=q7 hL3;have HB3:=q7 hb3;have hz3:=hb3.size;have hi3:=hS3.inb;have HI3:=q7 hi3;clear hS3 hL3 hb3 hi3 hc)|(at_builtin;refine qD _ rfl _ _ 59 rfl 44 i1 _ 1 24 Tryz.underlying59 k1 k2 k3 k4 rfl (by decide) J7 rfl ((HO.out.below J7 HB3.out).below J7 ((Below.refl _ w3).alloc (Nat.le_refl _) _)) ⟨w3.heap.size,0,none⟩ 1 [.slice p3 row.length c3] row rfl rfl (xq _ _ _ _ rfl) ?ho (T:=S3) ⟨p3,c3,rfl,HS3.out.below qT ((Below.refl _ w3).alloc (Nat.le_refl _) _)⟩ ?ha ?ht ?hm ?hb ?_))
  case ho=>intro u hu;rw[List.mem_singleton.1 hu];rfl
  case ha=>exact fun i h1 h2=>by have:=HO.out.inb i h1;have:=HL3.out i h2;omega
  case ht=>exact fun i h=>by have:=HI3.out i h;simp;omega
  case hm=>rw[hlen];unfold maxLen;omega
  case hb=>rw[hlen];omega
  intro v' w' hsn
  obtain⟨S',hS',hsub,hkp⟩:=hsn
  rw[←HNx.out]at hS'
  have HS':=q7 hS'
  have HL':Hid (LoB w.heap.size S'):=q7 fun i hi=>by
   rcases hsub i hi with h|h|h
   ·exact HL.out i h
   ·have:=HL3.out i h;omega
   simp at h;omega
  have HB':Hid (Below w.heap.size w w'):=q7 ((HB.out.trans ((HB3.out.trans (((Below.refl _ w3).alloc (Nat.le_refl _) _).mono hz3)).mono hzr)).trans (hkp.below (by simp;omega) HL.out))
  clear hS' hsub hkp hlen
  go_wp2_with fail
  go_roundg (n - (k+1))
  case measure=>omega
  case rel=>exact⟨k+1,by omega,rfl,by go_num,⟨S',HS'.out,HL'.out⟩,HB'.out⟩

theorem gfunc_any (u:UniL) (gp fp:Option Addr) (gc fc k:Nat) (w:World) (hgl:u.globals.length*48≤140737488351232) (hG:SliceAt w 3 (GloR w) gp u.globals) (hfl:u.funcs.length*56≤140737488351232) (hF:SliceAt w 4 (FunR w) fp u.funcs) (hw0:Ways w) (h:(chk u).1=0) (hk:k<u.funcs.length) :
  Calls Tryz.prog 80 #[.agg #[.slice gp u.globals.length gc,.slice fp u.funcs.length fc],.int .i64 k] w fun e w'=>(∃q c,e = .returned (.tuple #[.agg #[.string u.funcs[k].name,.int .i64 u.funcs[k].params,.int .i64 u.funcs[k].regs,.slice q u.funcs[k].blocks.length c],.agg #[.int .i64 0,.int .i64 0]])∧SliceAt w 6 (BlkR w) q u.funcs[k].blocks)∧Below w.heap.size w w':=by
 have HG:=q7 hG
 have HF:=q7 hF
 have HW:=q7 hw0
 have hne:((chk u).1 == 0&&(chk u).2 == 0)=true:=by rw[(ki h).1];rfl
 have hq:∀w,(binOp .neq 27 (.agg #[.int .i64 (chk u).1,.int .i64 (chk u).2]) (.agg #[.int .i64 0,.int .i64 0])).run Tryz.prog w = .ok (.bool false) w:=fun w=>by rw[xE,hne];rfl
 obtain⟨fb,fo,q,c,hp,f0,f1,f2,f3,_,_,_,_,hsl⟩:=kd hF (Below.refl _ _) hk
 subst hp
 have fz:=q8 f0
 have HSl:=q7 hsl
 have hwi:zR (k:Int) 0 ((u.funcs.length:Int) - 1)=true:=by unfold zR;simp;omega
 have hwr:IntKind.i64.wrap ((u.funcs.length:Int) - 1)=(u.funcs.length:Int) - 1:=by rw[IntKind.wrap_i64];omega
 have k0:(0:Int)≤(k:Int):=by omega
 have k1:(k:Int)<u.funcs.length:=by omega
 clear hG hF hw0 h hne hsl
 go_enter Tryz.func80,Tryz.ntmps80
 go_wp2_with fail
 refine(js u _ _ _ _ _ hgl (zS HG.out bZ) hfl (xI HF.out bZ) (HW.out.below bZ)).mono ?_
 rintro e w1 ⟨rfl,hb1⟩
 have HB1:Hid (Below w.heap.size w w1):=Below.trans bZ (hb1.mono (by simp;omega))
 have hU:=qd hb1 (k:=w.heap.size) (by simp;omega) (qj (qj (qr w _)))
 have hR:=qd hb1 (k:=w.heap.size+1) (by simp) (qj (qh (w:=w.alloc (.cells #[.slice gp u.globals.length gc,.slice (some ⟨fb,fo,none⟩) u.funcs.length fc] 25)) (o:=.cells #[.string { data:=#[] },.int .i64 0,.int .i64 0,.slice none 0 0] 37) (by simp)))
 have hR2:=qd hb1 (k:=w.heap.size+1+1) (by simp) (qh (w:=(w.alloc (.cells #[.slice gp u.globals.length gc,.slice (some ⟨fb,fo,none⟩) u.funcs.length fc] 25)).alloc (.cells #[.string { data:=#[] },.int .i64 0,.int .i64 0,.slice none 0 0] 37)) (o:=.cells #[.int .i64 0,.int .i64 0] 27) (by simp))
 have g0:=(HB1.out.cell (p:=⟨fb,fo+k*4,none⟩) fz).trans f0
 have g1:=(HB1.out.cell (p:=⟨fb,fo+k*4+1,none⟩) fz).trans f1
 have g2:=(HB1.out.cell (p:=⟨fb,fo+k*4+2,none⟩) fz).trans f2
 have g3:=(HB1.out.cell (p:=⟨fb,fo+k*4+3,none⟩) fz).trans f3
 have gz:=q8 g0
 obtain⟨hcu,hfu⟩:=blk hU
 obtain⟨hcr,hfr⟩:=blk hR
 obtain⟨hcs,hfs⟩:=blk hR2
 have zu:=q9 hU
 have z1:=q9 hR
 have z2:=q9 hR2
 have u0:=hcu 0
 have u1:=hcu 1
 have r0:=hcr 0
 have r1:=hcr 1
 have r2:=hcr 2
 have r3:=hcr 3
 have s0:=hcs 0
 have s1:=hcs 1
 simp only[List.getElem?_toArray,List.getElem?_cons_zero,List.getElem?_cons_succ]at u0 u1 r0 r1 r2 r3 s0 s1
 have HR:=q7 hR
 have HR2:=q7 hR2
 clear hb1 hR hR2 hU hcu hcr hcs f0 f1 f2 f3
 go_wp2_with (go_at_call 27;refine(qF _ _ _ _).mono ?_;rintro e w2 ⟨rfl,rfl⟩)
 obtain⟨W4,hW4⟩:∃W4,W4=(((w1.setCell ⟨w.heap.size+1,0,none⟩ (.string u.funcs[k].name)).setCell ⟨w.heap.size+1,1,none⟩ (.int .i64 u.funcs[k].params)).setCell ⟨w.heap.size+1,2,none⟩ (.int .i64 u.funcs[k].regs)).setCell ⟨w.heap.size+1,3,none⟩ (.slice q u.funcs[k].blocks.length c):=⟨_,rfl⟩
 have h4:W4.heap[w.heap.size+1]?=some (.cells #[.string u.funcs[k].name,.int .i64 u.funcs[k].params,.int .i64 u.funcs[k].regs,.slice q u.funcs[k].blocks.length c] 37 (0,0)):=by
  rw[hW4,qg (qg (qg (qg HR.out 0 _) 1 _) 2 _) 3 _]
  rfl
 have h5:W4.heap[w.heap.size+1+1]?=some (.cells #[.int .i64 0,.int .i64 0] 27 (0,0)):=by
  rw[hW4,Go.Deep.blk_setCell_other _ ⟨w.heap.size+1,3,none⟩ _ _ (by show w.heap.size+1+1≠w.heap.size+1;omega),Go.Deep.blk_setCell_other _ ⟨w.heap.size+1,2,none⟩ _ _ (by show w.heap.size+1+1≠w.heap.size+1;omega),Go.Deep.blk_setCell_other _ ⟨w.heap.size+1,1,none⟩ _ _ (by show w.heap.size+1+1≠w.heap.size+1;omega),Go.Deep.blk_setCell_other _ ⟨w.heap.size+1,0,none⟩ _ _ (by show w.heap.size+1+1≠w.heap.size+1;omega)]
  exact HR2.out
 have hb4:Below w.heap.size w W4:=by rw[hW4];exact bZ
 rw[←hW4]
 clear hW4
 obtain⟨WF,hWF⟩:∃WF,WF=((W4.setCell ⟨w.heap.size+1+1,0,none⟩ (.int .i64 0)).setCell ⟨w.heap.size+1+1,1,none⟩ (.int .i64 0)).alloc (.cells #[.int .i64 (chk u).1,.int .i64 (chk u).2] 27):=⟨_,rfl⟩
 have h6:WF.heap[w.heap.size+1]?=some (.cells #[.string u.funcs[k].name,.int .i64 u.funcs[k].params,.int .i64 u.funcs[k].regs,.slice q u.funcs[k].blocks.length c] 37 (0,0)):=by
  rw[hWF]
  refine qj ?_
  rw[Go.Deep.blk_setCell_other _ ⟨w.heap.size+1+1,1,none⟩ _ _ (by show w.heap.size+1≠w.heap.size+1+1;omega),Go.Deep.blk_setCell_other _ ⟨w.heap.size+1+1,0,none⟩ _ _ (by show w.heap.size+1≠w.heap.size+1+1;omega)]
  exact h4
 have h7:WF.heap[w.heap.size+1+1]?=some (.cells #[.int .i64 0,.int .i64 0] 27 (0,0)):=by
  rw[hWF]
  refine qj ?_
  rw[qg (qg h5 0 _) 1 _]
  rfl
 have hb7:Below w.heap.size w WF:=by
  rw[hWF]
  exact((hb4.setCell (p:=⟨w.heap.size+1+1,0,none⟩) (by show w.heap.size≤w.heap.size+1+1;omega) _).setCell (p:=⟨w.heap.size+1+1,1,none⟩) (by show w.heap.size≤w.heap.size+1+1;omega) _).alloc (by have:=hb4.size;simp;omega) _
 rw[←hWF]
 obtain⟨ra,_⟩:=blk h6
 obtain⟨re,_⟩:=blk h7
 have ra0:=ra 0
 have ra1:=ra 1
 have ra2:=ra 2
 have ra3:=ra 3
 have re0:=re 0
 have re1:=re 1
 simp only[List.getElem?_toArray,List.getElem?_cons_zero,List.getElem?_cons_succ]at ra0 ra1 ra2 ra3 re0 re1
 clear hWF h4 h5 hb4 h6 h7 ra re u0 u1 r0 r1 r2 r3 s0 s1 g0 g1 g2 g3
 refine bodyPost_ret (v:=.tuple #[.agg #[.string u.funcs[k].name,.int .i64 u.funcs[k].params,.int .i64 u.funcs[k].regs,.slice q u.funcs[k].blocks.length c],.agg #[.int .i64 0,.int .i64 0]]) ?_ rfl ⟨⟨q,c,rfl,HSl.out⟩,hb7⟩
 simp[results,Tryz.results80,go_sem,ra0,ra1,ra2,ra3,re0,re1]

theorem Kc (u:UniL) (gp fp:Option Addr) (gc fc k:Nat) (w:World) (hgl:u.globals.length*48≤140737488351232) (hG:SliceAt w 3 (GloR w) gp u.globals) (hfl:u.funcs.length*56≤140737488351232) (hF:SliceAt w 4 (FunR w) fp u.funcs) (hw0:Ways w) (h:(chk u).1=0) (hk:k<u.funcs.length) (hph:∀x∈u.funcs[k].blocks,x.phis=[]) :
  Calls Tryz.prog 47 #[.agg #[.slice gp u.globals.length gc,.slice fp u.funcs.length fc],.int .i64 k] w fun e w'=>(∃v,e = .returned (.tuple #[v,.agg #[.int .i64 0,.int .i64 0]])∧∃S,SlO 44 1 RowO w' v ((jM u.funcs[k]).map fun s=>xT s u.funcs[k].regs.toNat) S)∧Below w.heap.size w w':=by
 have HG:=q7 hG
 have HF:=q7 hF
 have HW:=q7 hw0
 have HK:=q7 (ki h).2
 have HC:=q7 ((ki h).2.funC hk)
 have hgf:=fun(W:World) (hb:Below w.heap.size w W)=>gfunc_any u gp fp gc fc k W hgl (zS HG.out hb) hfl (xI HF.out hb) (HW.out.below hb) h hk
 have HGf:=q7 hgf
 have HPh:=q7 hph
 have hq:∀w,(binOp .neq 27 (.agg #[.int .i64 0,.int .i64 0]) (.agg #[.int .i64 0,.int .i64 0])).run Tryz.prog w = .ok (.bool false) w:=fun w=>by rw[xE];rfl
 clear hG hF hw0 h hgf hph
 go_enter Tryz.func47,Tryz.ntmps47
 go_wp2_with fail
 refine(HGf.out _ bZ).mono ?_
 rintro e w1 ⟨⟨q,c,rfl,hsl⟩,hb1⟩
 have HSl:=q7 hsl
 have HB1:Hid (Below w.heap.size w w1):=Below.trans bZ (hb1.mono (by simp;omega))
 have hR:=qd hb1 (k:=w.heap.size+1) (by simp) (qh (w:=w.alloc (.cells #[.slice gp u.globals.length gc,.slice fp u.funcs.length fc] 25)) (o:=.cells #[.int .i64 0,.int .i64 0] 27) (by simp))
 have HR:=q7 hR
 have z1:=q9 hR
 have hzw:=HB1.out.size
 have hlQ:=q7 hb1
 clear hb1 hsl hR
 go_wp2_with fail
 have hbh:u.funcs[k].regs=(u.funcs[k].regs.toNat:Nat):=by have:=HC.out.par;have:=HC.out.reg;omega
 obtain⟨W1,hW1⟩:∃W1,W1=(w1.alloc (.cells #[.string u.funcs[k].name,.int .i64 u.funcs[k].params,.int .i64 u.funcs[k].regs,.slice q u.funcs[k].blocks.length c] 37)).alloc (.cells #[.int .i64 0,.int .i64 0] 27):=⟨_,rfl⟩
 rw[←hW1]
 have hbM:Below w1.heap.size w1 W1:=by rw[hW1];exact bZ
 have hbW:Below w.heap.size w W1:=HB1.out.trans (hbM.mono hzw)
 have hz1:W1.heap.size=w1.heap.size+1+1:=by rw[hW1];simp
 have hE1:W1.heap[w1.heap.size+1]?=some (.cells #[.int .i64 0,.int .i64 0] 27 (0,0)):=by rw[hW1];exact qh (by simp)
 have hR1:=(hbM.block _ z1).trans HR.out
 clear hW1
 have hlR:=allOf_any u.funcs[k] u.funcs[k].regs.toNat q c W1 HC.out hbh HPh.out (zF HSl.out (hlQ.out.trans (hbM.mono hlQ.out.size)))
 refine hlR.mono ?_
 rintro e w2 ⟨⟨I,⟨ic,vv,rfl⟩,gs,hIn⟩,hb2⟩
 have hz2:=hb2.size
 have HB2:=q7 (hbW.trans (hb2.mono hbW.size))
 have HE2:=q7 ((hb2.block _ (by omega)).trans hE1)
 have HR2:=q7 ((hb2.block _ (by omega)).trans hR1)
 have hlen:=(jG u.funcs[k]).1.len
 have hli:=fun(W:World) (hb:Below w2.heap.size w2 W)=>lists_any W1.heap.size I u.funcs[k].regs.toNat ic (jM u.funcs[k]) gs W (hIn.below hb) (by have:=HC.out.reg;omega) (by rw[hlen];have:=HC.out.n40;omega)
 rw[hlen]at hli
 have HLi:=q7 hli
 obtain⟨e2,_⟩:=blk HE2.out
 obtain⟨r2,rf2⟩:=blk HR2.out
 have e20:=e2 0
 have e21:=e2 1
 have r20:=r2 0
 have r21:=r2 1
 simp only[List.getElem?_toArray,List.getElem?_cons_zero,List.getElem?_cons_succ]at e20 e21 r20 r21
 have ez2:=q9 HE2.out
 have rz2:=q9 HR2.out
 clear hlR hIn hb2 hbM hbW hE1 hR1 hlen hli e2 r2 hbh
 go_wp2_with fail
 obtain⟨Sq,hSq⟩:∃Sq:World→Prop,Sq=fun w'=>w'.heap[w1.heap.size+1]?=some (.cells #[.int .i64 0,.int .i64 0] 27 (0,0)):=⟨_,rfl⟩
 have ha8:∀w',Sq w'→w'.cell? ⟨w1.heap.size+1,0,none⟩=some (.int .i64 0)∧w'.cell? ⟨w1.heap.size+1,1,none⟩=some (.int .i64 0)∧w1.heap.size+1<w'.heap.size:=fun w' h=>by
  rw[hSq]at h
  exact⟨(blk h).1 0,(blk h).1 1,q9 h⟩
 have hq0:Sq w2.drew:=by rw[hSq];exact HE2.out
 have hqb:∀w',Below w2.heap.size w2 w'→Sq w':=fun w' hb=>by rw[hSq];exact(hb.block _ ez2).trans HE2.out
 clear e20 e21 r20 r21
 refine qm (S:=Sq) (by kernel_rfl) 5 ?_
 refine jZ 0 25 (.slice (some ⟨I,0,none⟩) u.funcs[k].blocks.length ic) rfl rfl (Nat.le_refl _) (by kernel_rfl) (by kernel_rfl) (by kernel_rfl) (fun _ _ _ h=>h) (Or.inl ⟨by rfl,fun w' h=>?_⟩) hq0 ?_
 ·obtain⟨a1,a2,a3⟩:=ha8 w' h
  clear ha8 hq0
  go_simp
 refine jZ 2 27 (.agg #[.int .i64 0,.int .i64 0]) rfl rfl (Nat.le_refl _) (by kernel_rfl) (by kernel_rfl) (by kernel_rfl) (fun _ _ _ h=>h) (Or.inl ⟨by rfl,fun w' h=>?_⟩) hq0 ?_
 ·obtain⟨a1,a2,a3⟩:=ha8 w' h
  clear ha8 hq0
  go_simp
 refine qk (i:=1) (by kernel_rfl) (qt 26 rfl rfl rfl (by go_simp) (HLi.out w2.drew (Below.refl _ _).drew) ?_)
 rintro e w3 ⟨⟨v3,rfl,S3,hS3,hL3⟩,hb3⟩
 have he6:Below w2.heap.size w2 w3:=((Below.refl _ _).drew).trans hb3
 have hq3:=hqb w3 he6
 refine⟨_,rfl,hq3,?_⟩
 refine jZ 3 4 (v3) rfl rfl (Nat.le_refl _) (by kernel_rfl) (by kernel_rfl) (by kernel_rfl) (fun _ _ _ h=>h) (Or.inl ⟨by rfl,fun w' h=>?_⟩) hq3 ?_
 ·obtain⟨a1,a2,a3⟩:=ha8 w' h
  clear ha8 hq3
  go_simp
 have hR3:=(he6.block _ rz2).trans HR2.out
 obtain⟨r3,rf3⟩:=blk hR3
 have r30:=r3 0
 have r31:=r3 1
 simp only[List.getElem?_toArray,List.getElem?_cons_zero,List.getElem?_cons_succ]at r30 r31
 have rz3:=q9 hR3
 have hkF:Kept (fun i=>i=w.heap.size+1) w3 ((w3.setCell ⟨w.heap.size+1,0,none⟩ (.int .i64 0)).setCell ⟨w.heap.size+1,1,none⟩ (.int .i64 0)):=((Kept.refl (fun i=>i=w.heap.size+1) w3).setCell (p:=⟨w.heap.size+1,0,none⟩) rfl _).setCell (p:=⟨w.heap.size+1,1,none⟩) rfl _
 have hnS:∀i,S3 i→i≠w.heap.size+1:=fun i hi e=>by have:=hL3 i hi;have h2:w2.drew.heap.size=w2.heap.size:=rfl;omega
 refine qk (i:=4) (by kernel_rfl) (qz ((w3.setCell ⟨w.heap.size+1,0,none⟩ (.int .i64 0)).setCell ⟨w.heap.size+1,1,none⟩ (.int .i64 0)) rfl rfl rfl (by clear ha8 hq0 hqb hq3 hkF;go_simp) (fun _=>by rw[hSq];exact(hkF.block _ (by have:=he6.size;omega) (by show ¬ w1.heap.size+1=w.heap.size+1;omega)).trans ((he6.block _ ez2).trans HE2.out)) (qB (by kernel_rfl) ?_ _))
 show calm _ Exit.normal _ _
 simp only[calm,Exit.then]
 go_simp
 clear ha8 hq0 hqb hq3
 go_wp2_with fail
 obtain⟨WF,hWF⟩:∃WF,WF=(w3.setCell ⟨w.heap.size+1,0,none⟩ (.int .i64 0)).setCell ⟨w.heap.size+1,1,none⟩ (.int .i64 0):=⟨_,rfl⟩
 rw[←hWF]at hkF ⊢
 have h7:WF.heap[w.heap.size+1]?=some (.cells #[.int .i64 0,.int .i64 0] 27 (0,0)):=by
  rw[hWF,qg (qg hR3 0 _) 1 _]
  rfl
 have re0:=(blk h7).1 0
 have re1:=(blk h7).1 1
 simp only[List.getElem?_toArray,List.getElem?_cons_zero,List.getElem?_cons_succ]at re0 re1
 have hSF:=hS3.kept J7 hkF (fun i h1 h2=>hnS i h2 h1)
 refine bodyPost_ret (v:=.tuple #[v3,.agg #[.int .i64 0,.int .i64 0]]) ?_ rfl ⟨⟨v3,rfl,S3,hSF⟩,(HB2.out.trans (he6.mono HB2.out.size)).trans (hkF.below (by have:=HB2.out.size;have:=he6.size;omega) fun i e=>by(have e:i=w.heap.size+1:=e);omega)⟩
 clear hWF h7
 simp[results,Tryz.results47,go_sem,re0,re1]

theorem Vw {α:Type} {xs:List α} {t:α→Bool} {k:Nat} (hk:k<xs.length) (h:t xs[k]=true):xs.any t=true:=List.any_eq_true.2 ⟨_,List.getElem_mem hk,h⟩
theorem J8 {α:Type} {xs:List α} {t:α→Bool} (h:∀j (h:j<xs.length),t xs[j]=false):xs.any t=false:=by
 rw[List.any_eq_false]
 intro x hx
 obtain⟨j,hj,rfl⟩:=List.getElem_of_mem hx
 simp[h j hj]
def Kd (b:BlkL):Bool:=decide (0<b.phis.length)
def geB (m:Int) (r:Int):Bool:=decide (m≤r)

theorem phiB_any (b:BlkL) (q1 q2 q3:Option Addr) (c1 c2 c3:Nat) (w:World) :
  Calls Tryz.prog 46 #[.agg #[.slice q1 b.phis.length c1,.slice q2 b.list.length c2,.int .i64 b.fin.kind,.bool b.fin.onr,.int .i64 b.fin.onn,.slice q3 b.fin.to.length c3]] w fun e w'=>e = .returned (.bool (Kd b))∧Below w.heap.size w w':=by
 go_enter Tryz.func46,Tryz.ntmps46
 go_wp2
 go_ret
 exact⟨rfl,by exact bZ⟩
theorem geB_any (C:Nat) (m r:Int) (w:World) (hC:w.cell? ⟨C,1,none⟩=some (.int .i64 m)) :
  Calls Tryz.prog 49 #[.int .i64 r,.pointer (some ⟨C,0,none⟩)] w fun e w'=>e = .returned (.bool (geB m r))∧Below w.heap.size w w':=by
 obtain⟨x,hr⟩:∃x,x=geB m r:=⟨_,rfl⟩
 rw[←hr]
 have hr2:decide (m≤r)=x:=by rw[hr];rfl
 have hr3:decide (r≥m)=x:=hr2
 have cz:=q8 hC
 clear hr
 go_enter Tryz.func49,Tryz.ntmps49
 go_wp2
 go_ret
 exact⟨rfl,by exact bZ⟩

theorem Ke  (xs:List BlkL) (p:Option Addr) (c:Nat) (w:World) (hl:xs.length≤1000000) (hF:SliceAt w 6 (BlkR w) p xs) :
  Calls Tryz.prog 79 #[.slice p xs.length c,.func (.func 46) #[] #[]] w fun e w'=>(∃m:Int,e = .returned (.int .i64 m)∧Hid (decide (0≤m)=xs.any (Kd)))∧Below w.heap.size w w':=by
 have HF:=q7 hF
 clear hF
 go_enter Tryz.func79,Tryz.ntmps79
 go_wp2
 go_loopw [8] (fun i wr=>∃k:Nat,k≤xs.length∧i = .int .i64 k∧(∀j (h:j<xs.length),j<k→Kd xs[j]=false)∧Below w.heap.size w wr) (fun i _=>xs.length - (intOf i).toNat)
 case atStart=>exact⟨0,by omega,rfl,fun j _ h=>by omega,Below.refl _ _⟩
 case round=>
  obtain⟨k,hk,rfl,hV,hb⟩:=hrel
  have HV:=q7 hV
  have HBw:=q7 hb
  clear hV hb
  by_cases hlt:k<xs.length
  rotate_left
  ·go_wp2_with fail
   go_ret
   exact⟨⟨_,rfl,by rw[J8 fun j hj=>HV.out j hj (by omega)];rfl⟩,HBw.out⟩
  obtain⟨b,o,q1,c1,q2,c2,q3,c3,hp,e0,e1,e2,e3,e4,e5,_⟩:=zE HF.out HBw.out hlt
  subst hp
  have bz:=q8 e0
  go_wp2_with fail
  refine(phiB_any xs[k] q1 q2 q3 c1 c2 c3 _).mono ?_
  rintro e w3 ⟨rfl,hb3⟩
  have HB3:=q7 hb3
  have HE:Hid (∃q,q=Kd xs[k]):=⟨_,rfl⟩
  clear hb3
  cases hm:Kd xs[k]
  ·have HM:=q7 hm
   clear hm HE
   go_wp2_with fail
   refine⟨⟨k+1,by omega,by go_num,fun j hj hjk=>?_,HBw.out.trans (HB3.out.mono HBw.out.size)⟩,by simp[intOf];omega⟩
   by_cases hj2:j<k
   ·exact HV.out j hj hj2
   obtain rfl:j=k:=by omega
   exact HM.out
  have HM:=q7 hm
  clear hm HE
  go_wp2_with fail
  go_ret
  exact⟨⟨_,rfl,by rw[Vw hlt HM.out];exact decide_eq_true (by omega)⟩,HBw.out.trans (HB3.out.mono HBw.out.size)⟩
theorem hasP_any  (xs:List BlkL) (p:Option Addr) (c:Nat) (w:World) (hl:xs.length≤1000000) (hF:SliceAt w 6 (BlkR w) p xs) :
  Calls Tryz.prog 45 #[.slice p xs.length c,.func (.func 46) #[] #[]] w fun e w'=>e = .returned (.bool (xs.any (Kd)))∧Below w.heap.size w w':=by
 have HI:=q7 (Ke  xs p c w hl hF)
 clear hF
 go_enter Tryz.func45,Tryz.ntmps45
 go_wp2_with fail
 refine HI.out.mono ?_
 rintro e w1 ⟨⟨m,rfl,hm⟩,hb1⟩
 have hm2:=hm.out
 clear hm
 go_wp2_with fail
 go_ret
 refine⟨?_,hb1⟩
 rw[←hm2]
 rfl

theorem Kf (C:Nat) (M:Int) (xs:List Int) (p:Option Addr) (c:Nat) (w:World) (hl:xs.length≤1000000) (hF:SliceAt w 1 xC p xs) (hC:w.cell? ⟨C,1,none⟩=some (.int .i64 M)) :
  Calls Tryz.prog 83 #[.slice p xs.length c,.func (.func 49) #[] #[.pointer (some ⟨C,0,none⟩)]] w fun e w'=>(∃m:Int,e = .returned (.int .i64 m)∧Hid (decide (0≤m)=xs.any (geB M)))∧Below w.heap.size w w':=by
 have HF:=q7 hF
 have HC:=q7 hC
 clear hC
 clear hF
 go_enter Tryz.func83,Tryz.ntmps83
 go_wp2
 go_loopw [8] (fun i wr=>∃k:Nat,k≤xs.length∧i = .int .i64 k∧(∀j (h:j<xs.length),j<k→geB M xs[j]=false)∧Below w.heap.size w wr) (fun i _=>xs.length - (intOf i).toNat)
 case atStart=>exact⟨0,by omega,rfl,fun j _ h=>by omega,Below.refl _ _⟩
 case round=>
  obtain⟨k,hk,rfl,hV,hb⟩:=hrel
  have HV:=q7 hV
  have HBw:=q7 hb
  clear hV hb
  by_cases hlt:k<xs.length
  rotate_left
  ·go_wp2_with fail
   go_ret
   exact⟨⟨_,rfl,by rw[J8 fun j hj=>HV.out j hj (by omega)];rfl⟩,HBw.out⟩
  obtain⟨b,o,hp,e0,he3⟩:=Qn HF.out HBw.out hlt
  subst hp
  have bz:=q8 e0
  go_wp2_with fail
  refine(geB_any C M xs[k] _ ((HBw.out.cell (p:=⟨C,1,none⟩) (q8 HC.out)).trans HC.out)).mono ?_
  rintro e w3 ⟨rfl,hb3⟩
  have HB3:=q7 hb3
  have HE:Hid (∃q,q=geB M xs[k]):=⟨_,rfl⟩
  clear hb3
  cases hm:geB M xs[k]
  ·have HM:=q7 hm
   clear hm HE
   go_wp2_with fail
   refine⟨⟨k+1,by omega,by go_num,fun j hj hjk=>?_,HBw.out.trans (HB3.out.mono HBw.out.size)⟩,by simp[intOf];omega⟩
   by_cases hj2:j<k
   ·exact HV.out j hj hj2
   obtain rfl:j=k:=by omega
   exact HM.out
  have HM:=q7 hm
  clear hm HE
  go_wp2_with fail
  go_ret
  exact⟨⟨_,rfl,by rw[Vw hlt HM.out];exact decide_eq_true (by omega)⟩,HBw.out.trans (HB3.out.mono HBw.out.size)⟩
theorem hasG_any (C:Nat) (M:Int) (xs:List Int) (p:Option Addr) (c:Nat) (w:World) (hl:xs.length≤1000000) (hF:SliceAt w 1 xC p xs) (hC:w.cell? ⟨C,1,none⟩=some (.int .i64 M)) :
  Calls Tryz.prog 48 #[.slice p xs.length c,.func (.func 49) #[] #[.pointer (some ⟨C,0,none⟩)]] w fun e w'=>e = .returned (.bool (xs.any (geB M)))∧Below w.heap.size w w':=by
 have HI:=q7 (Kf C M xs p c w hl hF hC)
 clear hF hC
 go_enter Tryz.func48,Tryz.ntmps48
 go_wp2_with fail
 refine HI.out.mono ?_
 rintro e w1 ⟨⟨m,rfl,hm⟩,hb1⟩
 have hm2:=hm.out
 clear hm
 go_wp2_with fail
 go_ret
 refine⟨?_,hb1⟩
 rw[←hm2]
 rfl

theorem X4 {f:FunL} (h:f.blocks.any Kd=true):qO f=false:=by
 unfold qO
 rw[Bool.and_eq_false_iff]
 left
 obtain⟨b,hb,h2⟩:=List.any_eq_true.1 h
 refine Bool.eq_false_iff.2 fun h3=>?_
 have:=List.all_eq_true.1 h3 b hb
 unfold Kd at h2
 cases e:b.phis with
 | nil=>rw[e]at h2;exact absurd h2 (by decide)
 | cons _ _=>rw[e]at this;cases this
theorem QW {f:FunL} (h:f.blocks.any Kd=false):(∀b∈f.blocks,b.phis=[])∧qO f = !((xT ((jM f).getD 0 []) f.regs.toNat).any (geB f.params)):=by
 have hn:∀b∈f.blocks,b.phis=[]:=fun b hb=>by
  have:=List.any_eq_false.1 h b hb
  unfold Kd at this
  cases e:b.phis with
  | nil=>rfl
  | cons _ _=>rw[e]at this;simp at this
 refine⟨hn,?_⟩
 unfold qO
 rw[List.all_eq_true.2 (fun b hb=>by rw[hn b hb];rfl),Bool.true_and,Bool.eq_iff_iff,List.all_eq_true,Bool.not_eq_true',List.any_eq_false]
 unfold xT geB
 constructor
 ·intro h1 x hx
  obtain⟨r,hr,rfl⟩:=List.mem_map.1 hx
  obtain⟨hr1,hr2⟩:=List.mem_filter.1 hr
  have:=h1 r hr1
  rw[hr2]at this
  simp only[Bool.not_true,Bool.false_or,decide_eq_true_eq]at this ⊢
  omega
 intro h1 r hr
 cases e:inS ((jM f).getD 0 []) r with
 | false=>rfl
 | true=>
  have:=h1 (r:Int) (List.mem_map.2 ⟨r,List.mem_filter.2 ⟨hr,e⟩,rfl⟩)
  simp only[decide_eq_true_eq]at this
  simp only[Bool.not_true,Bool.false_or,decide_eq_true_eq]
  omega

theorem Kg (u:UniL) (gp fp:Option Addr) (gc fc k:Nat) (w:World) (hgl:u.globals.length*48≤140737488351232) (hG:SliceAt w 3 (GloR w) gp u.globals) (hfl:u.funcs.length*56≤140737488351232) (hF:SliceAt w 4 (FunR w) fp u.funcs) (hw0:Ways w) (h:(chk u).1=0) (hk:k<u.funcs.length) :
  Calls Tryz.prog 22 #[.agg #[.slice gp u.globals.length gc,.slice fp u.funcs.length fc],.int .i64 k] w fun e w'=>e = .returned (.bool (qO u.funcs[k]))∧Below w.heap.size w w':=by
 have HG:=q7 hG
 have HF:=q7 hF
 have HW:=q7 hw0
 have HC:=q7 ((ki h).2.funC hk)
 obtain⟨fb,fo,q,c,hp,f0,f1,f2,f3,_,_,_,_,hsl⟩:=kd hF (Below.refl _ _) hk
 subst hp
 have fz:=q8 f0
 have hli:=fun(W:World) (hb:Below w.heap.size w W) hph=>Kc u gp (some ⟨fb,fo,none⟩) gc fc k W hgl (zS HG.out hb) hfl (xI HF.out hb) (HW.out.below hb) h hk hph
 have HLi:=q7 hli
 have HSl:=q7 hsl
 have k0:(0:Int)≤(k:Int):=by omega
 have k1:(k:Int)<u.funcs.length:=by omega
 have hq:∀w,(binOp .eql 27 (.agg #[.int .i64 0,.int .i64 0]) (.agg #[.int .i64 0,.int .i64 0])).run Tryz.prog w = .ok (.bool true) w:=fun w=>by simp[go_sem]
 obtain⟨f,hf⟩:∃f,f=u.funcs[k]:=⟨_,rfl⟩
 have HFe:=q7 hf
 rw[←hf]at HC HSl HLi f0 f1 f2 f3 ⊢
 have hn1:=HC.out.n1
 have haA:=HC.out.n40
 clear hG hF hw0 h hli hsl hf
 go_enter Tryz.func22,Tryz.ntmps22
 go_wp2_with fail
 obtain⟨W1,hW1⟩:∃W1,W1=(w.alloc (.cells #[.slice gp u.globals.length gc,.slice (some ⟨fb,fo,none⟩) u.funcs.length fc] 25)).alloc (.cells #[.string f.name,.int .i64 f.params,.int .i64 f.regs,.slice q f.blocks.length c] 37):=⟨_,rfl⟩
 rw[←hW1]
 have hb1:Below w.heap.size w W1:=by rw[hW1];exact bZ
 have hz1:W1.heap.size=w.heap.size+1+1:=by rw[hW1];simp
 have hU1:W1.heap[w.heap.size]?=some (.cells #[.slice gp u.globals.length gc,.slice (some ⟨fb,fo,none⟩) u.funcs.length fc] 25 (0,0)):=by rw[hW1];exact qj (qh rfl)
 have hF1:W1.heap[w.heap.size+1]?=some (.cells #[.string f.name,.int .i64 f.params,.int .i64 f.regs,.slice q f.blocks.length c] 37 (0,0)):=by rw[hW1];exact qh (by simp)
 have HB1:=q7 hb1
 have HU1:=q7 hU1
 have HF1:=q7 hF1
 have hph:=hasP_any f.blocks q c W1 (by omega) (zF HSl.out hb1)
 clear hW1 hb1 hU1 hF1 f0 f1 f2 f3
 obtain⟨an,han⟩:∃an,an=f.blocks.any Kd:=⟨_,rfl⟩
 rw[←han]at hph
 have HAn:=q7 han
 clear han
 refine hph.mono ?_
 rintro e w2 ⟨rfl,hb2⟩
 have HB2:=q7 (HB1.out.trans (hb2.mono HB1.out.size))
 have hz2:=hb2.size
 have HU2:=q7 ((hb2.block _ (by omega)).trans HU1.out)
 have HF2:=q7 ((hb2.block _ (by omega)).trans HF1.out)
 have c0:w2.cell? ⟨w.heap.size,0,none⟩=some (.slice gp u.globals.length gc):=(blk HU2.out).1 0
 have c1:w2.cell? ⟨w.heap.size,1,none⟩=some (.slice (some ⟨fb,fo,none⟩) u.funcs.length fc):=(blk HU2.out).1 1
 have cz:=q9 HU2.out
 clear hb2 hph
 cases an
 ·obtain⟨hno,hpl⟩:=QW HAn.out.symm
  have HPl:=q7 hpl
  have hIn:=HLi.out w2 HB2.out hno
  have HIn:=q7 hIn
  clear hIn hpl hno
  go_wp2_with fail
  refine HIn.out.mono ?_
  rintro e w3 ⟨⟨v,rfl,S,hS⟩,hb3⟩
  have hll:((jM f).map fun s=>xT s f.regs.toNat).length=f.blocks.length:=by rw[List.length_map,(jG f).1.len]
  obtain⟨O,co,cs,T,hv,hOz,_,hcl,⟨p0,d0,hcs,hrow⟩,_,_,hcell,_⟩:=hS.focus J7 (by omega) (i:=0) (by rw[hll];exact hn1)
  rw[hll]at hv
  subst hv
  obtain⟨row,hr⟩:∃row,row=xT ((jM f).getD 0 []) f.regs.toNat:=⟨_,rfl⟩
  have hrl:((jM f).map fun s=>xT s f.regs.toNat)[0]'(by rw[hll];exact hn1)=row:=by
   rw[hr,List.getElem_map,List.getD_eq_getElem?_getD,List.getElem?_eq_getElem (by rw[(jG f).1.len];exact hn1)]
   rfl
  rw[hrl]at hcs hrow
  have hpO:row.length≤1000000:=by
   rw[hr]
   have:=J6 ((jM f).getD 0 []) f.regs.toNat
   have:=HC.out.reg
   omega
  have hc0:w3.cell? ⟨O,0,none⟩=some (.slice p0 row.length d0):=by
   have:=hcell 0 (by omega)
   rw[Nat.zero_mul,Nat.zero_add]at this
   rw[this,hcs]
   rfl
  obtain⟨p',c',e',_,_,hsr⟩:=hrow.read (R':=xC) qT (by omega) fun _ _ _ h=>h
  cases e'
  have hF3:=(hb3.block _ (q9 HF2.out)).trans HF2.out
  have hC3:w3.cell? ⟨w.heap.size+1,1,none⟩=some (.int .i64 f.params):=(blk hF3).1 1
  have hha:=fun(W:World) (hb:Below w3.heap.size w3 W)=>hasG_any (w.heap.size+1) f.params row p0 d0 W hpO (hsr.mono hb (by omega) fun _ _ h=>h) ((hb.cell (p:=⟨w.heap.size+1,1,none⟩) (q8 hC3)).trans hC3)
  have HHa:=q7 hha
  have HB3:=q7 (HB2.out.trans (hb3.mono HB2.out.size))
  have hz3:=HB3.out.size
  have HPl:Hid (qO f = !(row.any (geB f.params))):=q7 (by rw[hr];exact HPl.out)
  obtain⟨ag,hag⟩:∃ag,ag=row.any (geB f.params):=⟨_,rfl⟩
  rw[←hag]at HHa HPl
  have hgt:decide ((0:Int)<(f.blocks.length:Int))=true:=decide_eq_true (by omega)
  have n0:(0:Int)<(f.blocks.length:Int):=by omega
  clear hS hll hr hrl hcs hrow hcell hsr hF3 hC3 hha hb3 hag c0 c1 cz hcl
  go_wp2_with (go_at_call 48;refine(HHa.out _ bZ).mono ?_;rintro e w4 ⟨rfl,hb4⟩;have HB4:Hid (Below w.heap.size w w4):=q7 (HB3.out.trans (Below.trans bZ (hb4.mono (by simp;omega))));clear hb4)
  go_ret
  exact⟨by rw[HPl.out];rfl,HB4.out⟩
 have hpl:=X4 HAn.out.symm
 have HPl:=q7 hpl
 clear hpl
 go_wp2_with fail
 go_ret
 exact⟨by rw[HPl.out];rfl,HB2.out⟩

def kZ {α:Type} (h:α→α) (k:Nat) (xs:List α):List (Bool×α):=xs.mapIdx fun i x=>(decide (i<k),if i<k then h x else x)
theorem jf {α:Type} (h:α→α) (k:Nat) (xs:List α):(kZ h k xs).length=xs.length:=by simp[kZ]
theorem kF {α:Type} {h:α→α} {k i:Nat} {xs:List α} (hi:i<(kZ h k xs).length):(kZ h k xs)[i]=(decide (i<k),if i<k then h (xs[i]'(by rw[←jf h k xs];exact hi))else xs[i]'(by rw[←jf h k xs];exact hi)):=by simp[kZ]
theorem flagH_put {α:Type} {h:α→α} {k:Nat} {xs:List α} (hk:k<xs.length):(kZ h k xs).set k (true,h xs[k])=kZ h (k+1) xs:=by
 refine List.ext_getElem (by simp[kZ]) fun i h1 h2=>?_
 have h3:i<xs.length:=by rw[jf]at h2;exact h2
 rw[List.getElem_set,kF h2]
 by_cases e:k=i
 ·subst e
  rw[if_pos rfl,if_pos (by omega)]
  simp
 rw[if_neg e,kF (by rw[jf];exact h3)]
 by_cases g:i<k
 ·rw[if_pos g,if_pos (by omega)]
  simp[g,(show i<k+1 by omega)]
 rw[if_neg g,if_neg (by omega)]
 simp[g,(show ¬ i<k+1 by omega)]
theorem SlO.flagH0 {α:Type} {e:TypeId} {size:Nat} {RO:ElemO α} {R:List Value→α→Prop} {w:World} {v:Value} {xs:List α} {S:Blks} {h:α→α} (g:SlO e size (DatO R) w v xs S):SlO e size (xN RO R) w v (kZ h 0 xs) S:=
 g.imp (jf h 0 xs) fun i h1 h2 cs T _ hr=>by
  rw[kF h2]
  exact hr
theorem SlO.flagHN {α:Type} {e:TypeId} {size:Nat} {RO:ElemO α} {R:List Value→α→Prop} {w:World} {v:Value} {xs:List α} {S:Blks} {h:α→α} (g:SlO e size (xN RO R) w v (kZ h xs.length xs) S):SlO e size RO w v (xs.map h) S:=
 g.imp (by rw[jf,List.length_map]) fun i h1 h2 cs T _ hr=>by
  have h3:i<xs.length:=by rw[List.length_map]at h2;exact h2
  rw[kF h1]at hr
  unfold xN at hr
  rw[if_pos (by simpa using h3)]at hr
  rw[List.getElem_map]
  rw[if_pos h3]at hr
  exact hr
theorem glo_one {w:World} (cs:List Value) (x:GloL) (h:GloR w cs x):∀u∈cs,u.oneCell'=true:=by
 obtain⟨v,rfl,_,_,h⟩:=h
 obtain⟨p,c,rfl,_⟩:=h.outC
 intro u hu
 simp only[List.mem_cons,List.not_mem_nil,or_false]at hu
 rcases hu with rfl|rfl|rfl<;>rfl
theorem fun_one {w:World} (cs:List Value) (x:FunL) (h:FunR w cs x):∀u∈cs,u.oneCell'=true:=by
 obtain⟨v,rfl,_,_,_,h⟩:=h
 obtain⟨p,c,rfl,_⟩:=h.outC
 intro u hu
 simp only[List.mem_cons,List.not_mem_nil,or_false]at hu
 rcases hu with rfl|rfl|rfl|rfl<;>rfl
def quad (w:World) (g o:Nat) (a0 a1 a2 a3:Value):World:=(((w.setCell ⟨g,o,none⟩ a0).setCell ⟨g,o+1,none⟩ a1).setCell ⟨g,o+2,none⟩ a2).setCell ⟨g,o+3,none⟩ a3
theorem QX (w:World) (g o:Nat) (a0 a1 a2 a3:Value):Kept (fun i=>i=g) w (quad w g o a0 a1 a2 a3):=by
 unfold quad
 have h0:Kept (fun i=>i=g) w w:=Kept.refl _ w
 have h1:=h0.setCell (p:=⟨g,o,none⟩) rfl a0
 have h2:=h1.setCell (p:=⟨g,o+1,none⟩) rfl a1
 have h3:=h2.setCell (p:=⟨g,o+2,none⟩) rfl a2
 exact h3.setCell (p:=⟨g,o+3,none⟩) rfl a3
theorem RowPut.quad {w w1:World} {e:TypeId} {g o:Nat} {cs:List Value} (h:RowPut w w1 e g o 4 cs) (hl:cs.length=4) (a0 a1 a2 a3:Value):RowPut w (Go.Proofs.YtecdphhdmjmmnaaGreatDoor.quad w1 g o a0 a1 a2 a3) e g o 4 [a0,a1,a2,a3]:=by
 obtain⟨c0,c1,c2,c3,rfl⟩:=VH hl
 have h0:=RowPut.set h rfl (j:=0) (by omega) a0
 simp only[Nat.add_zero,List.set_cons_zero]at h0
 have h1:=RowPut.set h0 rfl (j:=1) (by omega) a1
 simp only[List.set_cons_succ,List.set_cons_zero]at h1
 have h2:=RowPut.set h1 rfl (j:=2) (by omega) a2
 simp only[List.set_cons_succ,List.set_cons_zero]at h2
 have h3:=RowPut.set h2 rfl (j:=3) (by omega) a3
 simp only[List.set_cons_succ,List.set_cons_zero]at h3
 unfold Go.Proofs.YtecdphhdmjmmnaaGreatDoor.quad
 exact h3
end Go.Proofs.YtecdphhdmjmmnaaGreatDoor
