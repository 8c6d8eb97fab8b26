/-
  The contract of turneryref5.ArgsDone.
-/
import Derived.Test.YtgjjhadbjmcnpaaGreatDoorJRcB
set_option maxRecDepth 100000
set_option maxHeartbeats 16000000
namespace Go.Proofs.YtgjjhadbjmcnpaaGreatDoor
open Go.RowKit Go.Shelf

theorem YP (u:UniL) (q1 q2:Option Addr) (e1 e2:Nat) (w:World) (hG:SlF w 3 48 (GloR w) (.slice q1 u.globals.length e1) u.globals) (hF:SlF w 4 56 (FunR w) (.slice q2 u.funcs.length e2) u.funcs) :
  Calls Tryz.prog 33 #[.agg #[.slice q1 u.globals.length e1,.slice q2 u.funcs.length e2]] w fun e w'=>(∃p1 c1 p2 c2,e = .returned (.agg #[.slice p1 u.globals.length c1,.slice p2 u.funcs.length c2])/\
   ∃S,UniO w' [.slice p1 u.globals.length c1,.slice p2 u.funcs.length c2] u S/\LoB w.heap.size S)/\Below w.heap.size w w':=by
 obtain⟨iG,k1,k2,k3,k4⟩:=info_parts XO;obtain⟨iF,l1,l2,l3,l4⟩:=info_parts XP;obtain⟨iB,j1,j2,j3,j4⟩:=info_parts Zg;have hlg:u.globals.length*48<=140737488351232:=hG.bdC;have hlf:u.funcs.length*56<=140737488351232:=hF.bdC;have hGs:SliceAt w 3 (GloR w) q1 u.globals:=by obtain⟨_,_,e,_,_,h⟩:=hG.outC;cases e;exact h
 have hFs:SliceAt w 4 (FunR w) q2 u.funcs:=by obtain⟨_,_,e,_,_,h⟩:=hF.outC;cases e;exact h
 have HGs:=q8 hGs;have HFs:=q8 hFs;have HBd:=q8 (zh hG.bdC hF.bdC);clear hG hF hGs hFs
 go_enter Tryz.func33,Tryz.ntmps33
 go_wp2_with fail
 obtain⟨W0,hW0⟩:=nZ (((w.alloc (.cells #[.slice q1 u.globals.length e1,.slice q2 u.funcs.length e2] 25)).alloc (.cells #[.slice none 0 0,.slice none 0 0] 25)).alloc (.cells #[.slice none 0 0,.slice none 0 0] 25));rw[←hW0];have hz0:W0.heap.size=w.heap.size+1+1+1:=by rw[hW0];simp
 have hmU:Hid (Below w.heap.size w W0):=q8 (by rw[hW0];exact bZ);have hdq:Hid (W0.heap[w.heap.size]?=some (.cells #[.slice q1 u.globals.length e1,.slice q2 u.funcs.length e2] 25 (0,0))):=q8 (by rw[hW0];exact qh (qh (qr rfl)));have HZ:Hid (W0.heap[w.heap.size+1]?=some (.cells #[.slice none 0 0,.slice none 0 0] 25 (0,0))):=q8 (by rw[hW0];exact qh (qr bV));have HO:Hid (W0.heap[w.heap.size+1+1]?=some (.cells #[.slice none 0 0,.slice none 0 0] 25 (0,0))):=q8 (by rw[hW0];exact qr bV);clear hW0
 go_loopw [4] (fun i wr=>∃(k:Nat) (v:Value),k<=u.globals.length/\i=Z k/\(∃S,SlO 61 3 GloO wr v (u.globals.take k) S/\LoB W0.heap.size S)/\wr.heap[w.heap.size+1+1]?=some (.cells #[v,.slice none 0 0] 25 (0,0))/\Kept (fun k=>k=w.heap.size+1+1) W0 wr) (fun i _=>u.globals.length - (intOf i).toNat)
 case atStart=>exact⟨0,.slice none 0 0,by omega,rfl,⟨fun _=>False,SlO.nil _ _ _ _ (fun _ h=>h.elim),fun _ h=>h.elim⟩,HO.out,Kept.refl _ _⟩
 case round=>
  obtain⟨k,v,hk,rfl,⟨S,hO,hL⟩,hA,hK⟩:=hrel;obtain⟨p,c,hv,_⟩:=hO.val;rw[List.length_take_of_le hk]at hv;subst hv;have HO:=q8 hO;have HL:=q8 hL;have HK:=q8 hK;have HA1:=q8 hA;have hsz:=hK.size;have HBw:Hid (Below w.heap.size w wr):=hmU.out.trans (hK.below bO (fun _ e=>by omega));have hPa:=(HK.out.block w.heap.size bO bO).trans hdq.out;have pc:wr.cell? (J w.heap.size 0)=some (.slice q1 u.globals.length e1):=(blk hPa).1 0;have pz:=qd hPa;clear hO hL hK hA hPa
  by_cases hlt:k<u.globals.length
  ·obtain⟨bp,op,cs,hp,_,hc,pv,rfl,hd0,hd,hs⟩:=HGs.out.get hlt;subst hp;obtain⟨qi,di,rfl,hq0,_,hql,hqs⟩:=hs;have hc0:=hc 0 bO;have hc1:=hc 1 bO;have hc2:=hc 2 bO;have hbp:=q9 hc0;have x0:=(HBw.out.cell (p:=(J bp _)) hbp).trans hc0;have x1:=(HBw.out.cell (p:=(J bp _)) hbp).trans hc1;have x2:=(HBw.out.cell (p:=(J bp _)) hbp).trans hc2;simp only[zB,zD,yJ]at x0 x1 x2;have HQ:=q8 (zh hq0 (zh hql hqs));have HD:=q8 (zh hd0 hd);clear hc hc0 hc1 hc2 hq0 hql hqs hd0 hd;have hoz:=qd HA1.out;have g1:(0:Int)<=(k:Int):=(by omega);have g2:(k:Int)<u.globals.length:=by omega
   go_wp2_with (at_builtin;refine kB rfl _ _ rfl rfl u.globals[k].init qi di rfl ?hsl HQ.out.1 HQ.out.2.1 ?_)
   case hsl=>exact HQ.out.2.2.mono (HBw.out.trans bZ) bO fun _ _ g=>g
   intro p' c' w5 S2 hS2 hL2 hb5;have hr5:Below wr.heap.size wr w5:=yo bZ (hb5.mono bV);have hu:=qg hb5 (k:=wr.heap.size) bV (qB wr _);obtain⟨hu0,hu1⟩:=blk hu;have zu:=(yL.1 hu).1;have hA5:=qg hr5 (k:=w.heap.size+1+1) hoz HA1.out;have ho0:w5.cell? (J (w.heap.size+1+1) 0)=some (.slice p k c):=(blk hA5).1 0;have hof:=(blk hA5).2;have zo:=qd hA5;have HA5:=q8 hA5;have hL2':∀k,S2 k->wr.heap.size+1<=k:=fun k h=>by have:=hL2 k h;simpa using this
   have HS2:=q8 hS2;have HL2:=q8 hL2';have HR5:=q8 hr5;have hgM:=hr5.size;have hne:w.heap.size+1+1≠wr.heap.size:=(by omega);have hN5:¬ S wr.heap.size:=fun h=>by have:=HO.out.inb _ h;omega
   have hN2:¬ S2 wr.heap.size:=fun h=>by have:=HL2.out _ h;omega
   have HO5:=q8 ((HO.out.below xl HR5.out).set_alloc xl (n:=wr.heap.size) (j:=2) hN5 (.slice p' u.globals[k].init.length c') (.cells #[.string u.globals[k].name,Z u.globals[k].size,.slice p' u.globals[k].init.length c'] 61));have HS5:=q8 (HS2.out.set_alloc xk (n:=wr.heap.size) (j:=2) hN2 (.slice p' u.globals[k].init.length c') (.cells #[.string u.globals[k].name,Z u.globals[k].size,.slice p' u.globals[k].init.length c'] 61))
   have HA8:=q8 (show((w5.setCell (J wr.heap.size 2) (.slice p' u.globals[k].init.length c')).alloc (.cells #[.string u.globals[k].name,Z u.globals[k].size,.slice p' u.globals[k].init.length c'] 61)).heap[w.heap.size+1+1]?=some (.cells #[.slice p k c,.slice none 0 0] 25 (0,0)) from
    qh ((zJ w5 ⟨wr.heap.size,2,none⟩ _ (w.heap.size+1+1) hne).trans HA5.out))
   clear hb5 hr5 hu hS2 hL2 hL2' hA5 hN5 hN2
   go_wp2_with (at_builtin;refine qH _ rfl _ _ 22 rfl 61 iG _ 3 48 Tryz.underlying22 k1 k2 k3 k4 rfl (by decide) xl rfl HO5.out ⟨w5.heap.size,0,none⟩ 1 [.string u.globals[k].name,Z u.globals[k].size,.slice p' u.globals[k].init.length c'] u.globals[k] rfl rfl ?hn ?ho (T:=S2) ⟨_,rfl,HD.out.1,HD.out.2,HS5.out⟩ ?ha ?ht ?hm ?hb ?_)
   case hn=>exact zW _ _ _ (by simp[World.setCell])
   case ho=>intro u hu;simp only[yC,yG,yl]at hu;rcases hu with rfl|rfl|rfl<;>rfl
   case ha=>exact fun k h1 h2=>by have:=HO.out.inb k h1;have:=HL2.out k h2;omega
   case ht=>exact HS2.out.sl.inb.set_alloc _ _ _
   case hm=>unfold maxLen;simp;omega
   case hb=>simp;omega
   intro v2 w8 ⟨S',hO8,hsub,hK8⟩;obtain⟨pv,cv,hv2,_⟩:=hO8.val;have hv3:v2 = .slice pv (k+1) cv:=(by rw[hv2];congr 1;simp;omega);clear hv2;subst hv3;have hSn:∀i,i<W0.heap.size->¬ S i:=fun i hi h=>by have:=HL.out i h;omega
   have hA9:=(hK8.block (w.heap.size+1+1) (qd HA8.out) (hSn _ bO)).trans HA8.out;have ho0:w8.cell? (J (w.heap.size+1+1) 0)=some (.slice p k c):=(blk hA9).1 0;have hof:=(blk hA9).2;have zo:=qd hA9
   have hrel:(∃S,SlO 61 3 GloO (w8.setCell (J (w.heap.size+1+1) 0) (.slice pv (k+1) cv)) (.slice pv (k+1) cv) (u.globals.take (k+1)) S/\LoB W0.heap.size S)/\(w8.setCell (J (w.heap.size+1+1) 0) (.slice pv (k+1) cv)).heap[w.heap.size+1+1]?=some (.cells #[.slice pv (k+1) cv,.slice none 0 0] 25 (0,0))/\Kept (fun k=>k=w.heap.size+1+1) W0 (w8.setCell (J (w.heap.size+1+1) 0) (.slice pv (k+1) cv)):=by
    have hlo:LoB W0.heap.size S':=fun i hi=>by
     rcases hsub i hi with h|h|h
     ·exact HL.out i h
     ·have:=HL2.out i h;omega
     simp[World.setCell]at h;omega
    refine⟨⟨S',?_,hlo⟩,?_,?_⟩
    ·have hO9:SlO 61 3 GloO w8 (.slice pv (k+1) cv) (u.globals.take (k+1)) S':=by first|exact hO8|(rw[yA hlt];exact hO8)
     exact hO9.loc xl (fun i hi=>zJ _ _ _ _ (fun e=>by have:=hlo i hi;have e2:i=w.heap.size+1+1:=e;omega)) (by simp[World.setCell])
    ·rw[qj hA9 0 _];rfl
    have kA:Kept (fun k=>k=w.heap.size+1+1) W0 ((w5.setCell (J wr.heap.size 2) (.slice p' u.globals[k].init.length c')).alloc (.cells #[.string u.globals[k].name,Z u.globals[k].size,.slice p' u.globals[k].init.length c'] 61)):=HK.out.trans (Kept.of_below (S:=fun _=>False) ((HR5.out.setCell bV _).alloc (by simp[World.setCell];omega) _)) (fun _ _ h=>h.elim);exact(kA.trans hK8 (fun i hi h=>absurd h (hSn i hi))).setCell rfl _
   have ha7:=q8 hrel;clear hA9 hO8 hsub hK8 hrel
   go_wp2_with fail
   exact⟨⟨k+1,.slice pv (k+1) cv,by omega,by go_num,ha7.out.1,ha7.out.2.1,ha7.out.2.2⟩,by simp[intOf];omega⟩
  obtain rfl:k=u.globals.length:=by omega
  rw[yP]at HO;obtain⟨W1,hW1⟩:=nZ wr;obtain⟨S1,hS1⟩:=nZ S;obtain⟨p5,hp5⟩:=nZ p;obtain⟨c5,hc5⟩:=nZ c;rw[←hp5,←hc5]at HO HA1;clear hp5 hc5;obtain⟨vg,hvg⟩:=nZ (Value.slice p5 u.globals.length c5);have hiO:=q8 HBw.out;have hbH:=q8 ((HK.out.block w.heap.size bO bO).trans hdq.out);have HOg:=q8 HO.out;have HLg:=q8 HL.out;have HK1:=q8 HK.out;have HA2:=q8 HA1.out;have pc2:wr.cell? (J w.heap.size 1)=some (.slice q2 u.funcs.length e2):=(blk hbH.out).1 1;rw[←hS1]at HOg HLg
  go_wp2_with fail
  rw[←hW1];rw[←hW1]at hiO hbH HOg HK1 HA2 hsz;rw[←hvg]at HA2;clear pc2 pc pz HBw HO HL HK HA1 hW1 hS1
  go_loopw [6] (fun i wr=>∃(k:Nat) (v:Value),k<=u.funcs.length/\i=Z k/\(∃S,SlO 38 4 FunO wr v (u.funcs.take k) S/\LoB W1.heap.size S)/\wr.heap[w.heap.size+1+1]?=some (.cells #[vg,v] 25 (0,0))/\Kept (fun k=>k=w.heap.size+1+1) W1 wr) (fun i _=>u.funcs.length - (intOf i).toNat)
  case atStart=>exact⟨0,.slice none 0 0,by omega,rfl,⟨fun _=>False,SlO.nil _ _ _ _ (fun _ h=>h.elim),fun _ h=>h.elim⟩,HA2.out,Kept.refl _ _⟩
  case round=>
   obtain⟨k,v,hk,rfl,⟨S,hO,hL⟩,hA,hK⟩:=hrel;obtain⟨pf,cf,hv,_⟩:=hO.val;rw[List.length_take_of_le hk]at hv;subst hv;have HO:=q8 hO;have HL:=q8 hL;have HK:=q8 hK;have HA1:=q8 hA;have hsz1:=hK.size;have HBw:Hid (Below w.heap.size w wr):=hiO.out.trans (hK.below bO (fun _ e=>by omega));have hPa:=(HK.out.block w.heap.size bO bO).trans hbH.out;have pc:wr.cell? (J w.heap.size 1)=some (.slice q2 u.funcs.length e2):=(blk hPa).1 1;have pz:=qd hPa;have HPa:=q8 hPa;clear hO hL hK hA hPa
   by_cases hlt:k<u.funcs.length
   rotate_left
   ·obtain rfl:k=u.funcs.length:=(by omega);rw[yP]at HO;subst hvg;have r0:wr.cell? (J (w.heap.size+1+1) 0)=some (.slice p5 u.globals.length c5):=(blk HA1.out).1 0;have r1:wr.cell? (J (w.heap.size+1+1) 1)=some (.slice pf u.funcs.length cf):=(blk HA1.out).1 1;have hZ:=(HK.out.block (w.heap.size+1) bO bO).trans ((HK1.out.block (w.heap.size+1) bO bO).trans HZ.out);have rz0:wr.cell? (J (w.heap.size+1) 0)=some (.slice none 0 0):=(blk hZ).1 0;have rz1:wr.cell? (J (w.heap.size+1) 1)=some (.slice none 0 0):=(blk hZ).1 1;have rf:=(blk hZ).2;have hzl:=qd hZ
    go_wp2_with fail
    obtain⟨WF,hWF⟩:=nZ ((wr.setCell (J (w.heap.size+1) 0) (.slice p5 u.globals.length c5)).setCell (J (w.heap.size+1) 1) (.slice pf u.funcs.length cf));rw[←hWF]
    have hF1:WF.heap[w.heap.size+1]?=some (.cells #[.slice p5 u.globals.length c5,.slice pf u.funcs.length cf] 25 (0,0)):=by
     rw[hWF,qj (qj hZ 0 _) 1 _];rfl
    have hFo:∀k,k≠w.heap.size+1->WF.heap[k]?=wr.heap[k]?:=fun k h1=>by
     rw[hWF]
     repeat rw[zJ _ _ _ _ (by assumption)]
    have hFs:WF.heap.size=wr.heap.size:=by rw[hWF];simp[World.setCell]
    have hFb:Below w.heap.size w WF:=by
     rw[hWF];exact(HBw.out.setCell bV _).setCell bV _
    clear hWF;have k0:=(blk hF1).1 0;have k1':=(blk hF1).1 1;have hG:=(HOg.out.kept xl HK.out (fun i e hi=>by have:=HLg.out i hi;omega)).loc (w':=WF) xl (fun i hi=>hFo i (fun e=>by have:=HLg.out i hi;omega)) bO;have hF:=HO.out.loc (w':=WF) qK (fun i hi=>hFo i (fun e=>by have:=HL.out i hi;omega)) bO;refine zk (v:=.agg #[.slice p5 u.globals.length c5,.slice pf u.funcs.length cf]) ?_ rfl ⟨⟨p5,c5,pf,cf,rfl,fun k=>S1 k\/S k,⟨_,_,S1,S,rfl,⟨hG,HBd.out.1⟩,⟨hF,HBd.out.2⟩,fun i h1 h2=>?_,fun _ h=>.inl h,fun _ h=>.inr h⟩,fun i hi=>?_⟩,hFb⟩
    ·simp[results,Tryz.results33,go_sem,k0,k1']
    ·have:=HOg.out.inb i h1;have:=HL.out i h2;omega
    rcases hi with h|h
    ·have:=HLg.out i h;omega
    have:=HL.out i h;omega
   obtain⟨bp,op,cs,hp,_,hc,b0,rfl,b3,b4,b5,b6⟩:=HFs.out.get hlt;subst hp;obtain⟨q3,d3',rfl,_,_,hbs⟩:=b6.outC;have hlb:u.funcs[k].blocks.length*96<=140737488351232:=b6.bdC;have hc0:=hc 0 bO;have hbp:=q9 hc0;have hc3:=hc 3 bO;have x0:=(HBw.out.cell (p:=(J bp _)) hbp).trans hc0;have x1:=(HBw.out.cell (p:=(J bp _)) hbp).trans (hc 1 bO);have x2:=(HBw.out.cell (p:=(J bp _)) hbp).trans (hc 2 bO);have x3:=(HBw.out.cell (p:=(J bp _)) hbp).trans hc3;simp only[zB,zD,yJ]at x0 x1 x2 x3 hc3;have HR:=q8 (zh b3 (zh b4 (zh b5 (zh b6.bdC hbs))));have HC3:=q8 hc3;have hwG:bp<wr.heap.size:=(by have:=HBw.out.size;omega);clear hc hc0 b3 b4 b5 b6 hbs hc3;have g1:(0:Int)<=(k:Int):=(by omega);have g2:(k:Int)<u.funcs.length:=by omega
   go_wp2_with fail
   obtain⟨WI,hWI⟩:=nZ (wr.alloc (.cells #[.string u.funcs[k].name,Z u.funcs[k].params,Z u.funcs[k].regs,.slice none 0 0] 38));rw[←hWI];have hzI:WI.heap.size=wr.heap.size+1:=(by rw[hWI];simp);have HBI:Hid (Below wr.heap.size wr WI):=q8 (by rw[hWI];exact bZ);have HXI:Hid (WI.heap[wr.heap.size]?=some (.cells #[.string u.funcs[k].name,Z u.funcs[k].params,Z u.funcs[k].regs,.slice none 0 0] 38 (0,0))):=q8 (by rw[hWI];exact qr rfl);clear hWI x0 x1 x2 x3;obtain⟨wo,hwo⟩:∃wo:World,wo=wr:=⟨_,rfl⟩;subst hwo
   go_loopw [8] (fun i wr=>∃(l:Nat) (v:Value),l<=u.funcs[k].blocks.length/\i=Z l/\(∃S,SlO 49 6 BlkO wr v (u.funcs[k].blocks.take l) S/\LoB WI.heap.size S)/\wr.heap[wo.heap.size]?=some (.cells #[.string u.funcs[k].name,Z u.funcs[k].params,Z u.funcs[k].regs,v] 38 (0,0))/\Kept (fun b=>b=wo.heap.size) WI wr) (fun i _=>u.funcs[k].blocks.length - (intOf i).toNat)
   case atStart=>exact⟨0,.slice none 0 0,by omega,rfl,⟨fun _=>False,SlO.nil _ _ _ _ (fun _ h=>h.elim),fun _ h=>h.elim⟩,HXI.out,Kept.refl _ _⟩
   case round=>
    obtain⟨l,v,hl,rfl,⟨SB,hOB,hLB⟩,hXB,hKB⟩:=hrel;obtain⟨pb,cb,hv,_⟩:=hOB.val;rw[List.length_take_of_le hl]at hv;subst hv;have HOB:=q8 hOB;have HLB:=q8 hLB;have HXB:=q8 hXB;have HKB:=q8 hKB;have hwH:=hKB.size;have hmV:Below w.heap.size w wr:=(HBw.out.trans (HBI.out.mono (by have:=HBw.out.size;omega))).trans (hKB.below (by have:=HBw.out.size;omega) (fun _ e=>by omega));have hfq:=q8 hmV;have hPi:=(HKB.out.block w.heap.size bO bO).trans ((HBI.out.block w.heap.size pz).trans HPa.out);have HPi:=q8 hPi;have pci:wr.cell? (J w.heap.size 1)=some (.slice (some (J bp op)) u.funcs.length e2):=(blk hPi).1 1;have pzi:=qd hPi;have x3:=(hfq.out.cell (p:=(J bp (op+k*4+3))) hbp).trans HC3.out;have hwI:bp<wr.heap.size:=(by have:=hmV.size;omega);clear hOB hLB hXB hKB hPi hmV
    by_cases hll:l<u.funcs[k].blocks.length
    rotate_left
    ·obtain rfl:l=u.funcs[k].blocks.length:=(by omega);rw[yP]at HOB;have hO8:=(HKB.out.block (w.heap.size+1+1) bO bO).trans ((HBI.out.block (w.heap.size+1+1) bO).trans HA1.out);have o1:wr.cell? (J (w.heap.size+1+1) 1)=some (.slice pf k cf):=(blk hO8).1 1;have oz:=qd hO8;have y0:wr.cell? (J wo.heap.size 0)=some (.string u.funcs[k].name):=(blk HXB.out).1 0;have y1:wr.cell? (J wo.heap.size 1)=some (Z u.funcs[k].params):=(blk HXB.out).1 1;have y2:wr.cell? (J wo.heap.size 2)=some (Z u.funcs[k].regs):=(blk HXB.out).1 2;have y3:wr.cell? (J wo.heap.size 3)=some (.slice pb u.funcs[k].blocks.length cb):=(blk HXB.out).1 3;have hO8:=q8 hO8;have hqE:Below wo.heap.size wo wr:=HBI.out.trans (HKB.out.below bO (fun _ e=>by omega));have hqF:=q8 hqE;clear hqE
     go_wp2_with (at_builtin;refine qH _ rfl _ _ 23 rfl 38 iF _ 4 56 Tryz.underlying23 l1 l2 l3 l4 rfl (by decide) qK rfl (S:=S) (xs:=u.funcs.take k) ?hso ⟨wr.heap.size,0,none⟩ 1 [.string u.funcs[k].name,Z u.funcs[k].params,Z u.funcs[k].regs,.slice pb u.funcs[k].blocks.length cb] u.funcs[k] rfl rfl ?hn ?ho (T:=SB) ?hx ?ha ?ht ?hm ?hb ?_)
     case hso=>exact(HO.out.below qK hqF.out).below qK ((zI _ _).alloc (zK _) _)
     case hn=>exact zW _ _ _ rfl
     case ho=>intro z hz;simp only[yC,yG,yl]at hz;rcases hz with rfl|rfl|rfl|rfl<;>rfl
     case hx=>exact⟨_,rfl,HR.out.1,HR.out.2.1,HR.out.2.2.1,⟨HOB.out.below qM ((zI _ _).alloc (zK _) _),HR.out.2.2.2.1⟩⟩
     case ha=>exact fun b h1 h2=>by have:=HO.out.inb b h1;have:=HLB.out b h2;omega
     case ht=>exact HOB.out.inb.mono bV
     case hm=>unfold maxLen;simp;omega
     case hb=>simp;omega
     intro v2 w8 ⟨S',hO9,hsub,hK8⟩;obtain⟨pv,cv,hv2,_⟩:=hO9.val;have hv3:v2 = .slice pv (k+1) cv:=(by rw[hv2];congr 1;simp;omega);clear hv2;subst hv3;have hSn:∀i,i<W1.heap.size->¬ S i:=fun i hi h=>by have:=HL.out i h;omega
     have hA9:=(hK8.block (w.heap.size+1+1) bW (hSn _ bO)).trans (qh (o:=.cells #[.string u.funcs[k].name,Z u.funcs[k].params,Z u.funcs[k].regs,.slice pb u.funcs[k].blocks.length cb] 38) hO8.out);have ho1:w8.cell? (J (w.heap.size+1+1) 1)=some (.slice pf k cf):=(blk hA9).1 1;have hof:=(blk hA9).2;have zo:=qd hA9
     have hrel:(∃S,SlO 38 4 FunO (w8.setCell (J (w.heap.size+1+1) 1) (.slice pv (k+1) cv)) (.slice pv (k+1) cv) (u.funcs.take (k+1)) S/\LoB W1.heap.size S)/\(w8.setCell (J (w.heap.size+1+1) 1) (.slice pv (k+1) cv)).heap[w.heap.size+1+1]?=some (.cells #[vg,.slice pv (k+1) cv] 25 (0,0))/\Kept (fun k=>k=w.heap.size+1+1) W1 (w8.setCell (J (w.heap.size+1+1) 1) (.slice pv (k+1) cv)):=by
      have hlo:LoB W1.heap.size S':=fun i hi=>by
       rcases hsub i hi with h|h|h
       ·exact HL.out i h
       ·have:=HLB.out i h;omega
       simp at h;omega
      refine⟨⟨S',?_,hlo⟩,?_,?_⟩
      ·have hul:SlO 38 4 FunO w8 (.slice pv (k+1) cv) (u.funcs.take (k+1)) S':=by first|exact hO9|(rw[yA hlt];exact hO9)
       exact hul.loc qK (fun i hi=>zJ _ _ _ _ (fun e=>by have:=hlo i hi;have e2:i=w.heap.size+1+1:=e;omega)) (by simp[World.setCell])
      ·rw[qj hA9 1 _];rfl
      have kA:Kept (fun k=>k=w.heap.size+1+1) W1 (wr.alloc (.cells #[.string u.funcs[k].name,Z u.funcs[k].params,Z u.funcs[k].regs,.slice pb u.funcs[k].blocks.length cb] 38)):=(HK.out.trans (Kept.of_below (S:=fun _=>False) hqF.out) (fun _ _ h=>h.elim)).alloc _;exact(kA.trans hK8 (fun i hi h=>absurd h (hSn i hi))).setCell rfl _
     have ha7:=q8 hrel;clear hA9 hO9 hsub hK8 hrel
     go_wp2_with fail
     exact⟨⟨k+1,.slice pv (k+1) cv,by omega,by go_num,ha7.out.1,ha7.out.2.1,ha7.out.2.2⟩,by simp[intOf];omega⟩
    obtain⟨bq,oq,cs,hq,_,hc,b0,b1,b2,rfl,b3,b4,b5,b6,b7⟩:=HR.out.2.2.2.2.get hll;subst hq;obtain⟨r1,d1,rfl,_⟩:=b5.outC;obtain⟨r2,d2,rfl,_⟩:=b6.outC;obtain⟨r3,d3,rfl,_⟩:=b7.outC;have hc0:=hc 0 bO;have hbq:=q9 hc0;have HCB:=q8 hc;have HRB:=q8 (zh b3 (zh b4 (zh b5 (zh b6 b7))));clear hc hc0 b3 b4 b5 b6 b7;have g3:(0:Int)<=(l:Int):=(by omega);have g4:(l:Int)<u.funcs[k].blocks.length:=by omega
    go_wp2_with fail
    obtain⟨Sp,hSp⟩:∃Sp:World->Prop,Sp=fun w'=>w'.heap[wo.heap.size]?=some (.cells #[.string u.funcs[k].name,Z u.funcs[k].params,Z u.funcs[k].regs,.slice pb l cb] 38 (0,0))/\w'.heap[w.heap.size]?=some (.cells #[.slice q1 u.globals.length e1,.slice (some (J bp op)) u.funcs.length e2] 25 (0,0))/\Below w.heap.size w w':=⟨_,rfl⟩
    have ha6:∀w',Sp w'->(w'.cell? (J wo.heap.size 3)=some (.slice pb l cb))/\w'.cell? (J w.heap.size 1)=some (.slice (some (J bp op)) u.funcs.length e2)/\w'.cell? (J bp (op+k*4+3))=some (.slice (some (J bq oq)) u.funcs[k].blocks.length d3')/\(∀j,j<6->w'.cell? (J bq (oq+l*6+j))=[.slice r1 u.funcs[k].blocks[l].phis.length d1,.slice r2 u.funcs[k].blocks[l].list.length d2,Z u.funcs[k].blocks[l].fin.kind,.bool u.funcs[k].blocks[l].fin.onr,Z u.funcs[k].blocks[l].fin.onn,.slice r3 u.funcs[k].blocks[l].fin.to.length d3][j]?)/\wo.heap.size<w'.heap.size/\w'.frozen? (J wo.heap.size 3)=false:=fun w' h=>by
     rw[hSp]at h;exact⟨(blk h.1).1 3,(blk h.2.1).1 1,(h.2.2.cell (p:=(J bp _)) hbp).trans HC3.out,fun j hj=>(h.2.2.cell (p:=(J bq _)) hbq).trans (HCB.out j hj),qd h.1,(blk h.1).2 3⟩
    have hSk:∀{U:Blks} {x y:World},Sp x->Kept U x y->(∀b,U b->w.heap.size<b/\b≠wo.heap.size)->Sp y:=fun {U x y} h hk hU=>by
     rw[hSp]at h ⊢;exact⟨(hk.block _ (qd h.1) (fun e=>(hU _ e).2 rfl)).trans h.1,(hk.block _ (qd h.2.1) (fun e=>by have:=(hU _ e).1;omega)).trans h.2.1,h.2.2.trans (hk.below h.2.2.size (fun b e=>by have:=(hU b e).1;omega))⟩
    have hbI:Sp wr:=by
     rw[hSp];exact⟨HXB.out,HPi.out,hfq.out⟩
    have hS1:Sp wr.drew:=by
     rw[hSp]at hbI ⊢;exact⟨hbI.1,hbI.2.1,hbI.2.2.drew⟩
    refine qA (S:=Sp) bK 15 ?_;refine tkZ 0 56 (.pointer (some (J wo.heap.size 3))) rfl rfl hS1 (fun w' h=>?_) ?_
    ·obtain⟨h1,h2,h3,h4,h5,h6⟩:=ha6 w' h;go_simp
    refine tkZ 1 57 (.slice pb l cb) rfl rfl hS1 (fun w' h=>?_) ?_
    ·obtain⟨h1,h2,h3,h4,h5,h6⟩:=ha6 w' h;go_simp
    refine tkZ 2 58 (.pointer (some (J w.heap.size 1))) rfl rfl hS1 (fun w' h=>?_) ?_
    ·obtain⟨h1,h2,h3,h4,h5,h6⟩:=ha6 w' h;go_simp
    refine tkZ 3 59 (.slice (some (J bp op)) u.funcs.length e2) rfl rfl hS1 (fun w' h=>?_) ?_
    ·obtain⟨h1,h2,h3,h4,h5,h6⟩:=ha6 w' h;go_simp
    refine tkZ 4 60 (Z k) rfl rfl hS1 (fun w' h=>?_) ?_
    ·obtain⟨h1,h2,h3,h4,h5,h6⟩:=ha6 w' h;go_simp
    refine tkZ 5 61 (.pointer (some (J bp (op+k*4)))) rfl rfl hS1 (fun w' h=>?_) ?_
    ·obtain⟨h1,h2,h3,h4,h5,h6⟩:=ha6 w' h;go_simp
    refine tkZ 6 62 (.pointer (some (J bp (op+k*4+3)))) rfl rfl hS1 (fun w' h=>?_) ?_
    ·obtain⟨h1,h2,h3,h4,h5,h6⟩:=ha6 w' h;go_simp
    refine tkZ 7 63 (.slice (some (J bq oq)) u.funcs[k].blocks.length d3') rfl rfl hS1 (fun w' h=>?_) ?_
    ·obtain⟨h1,h2,h3,h4,h5,h6⟩:=ha6 w' h;go_simp
    refine tkZ 8 64 (Z l) rfl rfl hS1 (fun w' h=>?_) ?_
    ·obtain⟨h1,h2,h3,h4,h5,h6⟩:=ha6 w' h;go_simp
    refine tkZ 9 65 (.pointer (some (J bq (oq+l*6)))) rfl rfl hS1 (fun w' h=>?_) ?_
    ·obtain⟨h1,h2,h3,h4,h5,h6⟩:=ha6 w' h;go_simp
    refine tkZ 10 66 (.agg #[.slice r1 u.funcs[k].blocks[l].phis.length d1,.slice r2 u.funcs[k].blocks[l].list.length d2,Z u.funcs[k].blocks[l].fin.kind,.bool u.funcs[k].blocks[l].fin.onr,Z u.funcs[k].blocks[l].fin.onn,.slice r3 u.funcs[k].blocks[l].fin.to.length d3]) rfl rfl hS1 (fun w' h=>?_) ?_
    ·obtain⟨h1,h2,h3,h4,h5,h6⟩:=ha6 w' h;have y0:=h4 0 bO;have y1:=h4 1 bO;have y2:=h4 2 bO;have y3:=h4 3 bO;have y4:=h4 4 bO;have y5:=h4 5 bO;simp only[zB,zD,yJ]at y0 y1 y2 y3 y4 y5;go_simp
    have hw1:Below w.heap.size w wr.drew:=hfq.out.drew;refine qm (i:=11) bK (qt 67 rfl rfl rfl (by go_simp) (Vk u.funcs[k].blocks[l] r1 r2 r3 d1 d2 d3 wr.drew (HRB.out.2.2.1.mono hw1 bO fun _ _ g=>g.below hw1) (HRB.out.2.2.2.1.mono hw1 bO fun _ _ g=>g.below hw1) (HRB.out.2.2.2.2.mono hw1 bO fun _ _ g=>g) HRB.out.1 HRB.out.2.1) ?_);rintro e w2 ⟨⟨p1,m1,p2,m2,p3,m3,rfl,T0,hT0,hgO⟩,hb2⟩;obtain⟨T,hT,hTi,hTs⟩:=hT0.tight;have hTl:∀b,T b->wr.heap.size<=b:=fun b h=>hgO b (hTs b h);clear hT0 hgO hTs;have hb2:Below wr.heap.size wr w2:=(zI _ wr).drew.trans hb2;have hS2:Sp w2:=hSk (x:=wr) hbI (Kept.of_below (S:=fun _=>False) hb2) (fun _ h=>h.elim);refine⟨_,rfl,hS2,?_⟩;have HO2:=q8 (HOB.out.below qM hb2);have hz2:=hb2.size;have HT2:=q8 hT;have HTl:=q8 hTl;have HTi:=q8 hTi;have HB2:=q8 hb2;clear hT hTl hTi hb2;have hS3:Sp (w2.alloc (.cells #[.slice p1 u.funcs[k].blocks[l].phis.length m1,.slice p2 u.funcs[k].blocks[l].list.length m2,Z u.funcs[k].blocks[l].fin.kind,.bool u.funcs[k].blocks[l].fin.onr,Z u.funcs[k].blocks[l].fin.onn,.slice p3 u.funcs[k].blocks[l].fin.to.length m3] 49)):=hSk hS2 ((Kept.refl (fun _=>False) _).alloc _) (fun _ h=>h.elim);refine qm (i:=12) bK (qC 68 (.slice (some (J w2.heap.size 0)) 1 1) (w2.alloc (.cells #[.slice p1 u.funcs[k].blocks[l].phis.length m1,.slice p2 u.funcs[k].blocks[l].list.length m2,Z u.funcs[k].blocks[l].fin.kind,.bool u.funcs[k].blocks[l].fin.onr,Z u.funcs[k].blocks[l].fin.onn,.slice p3 u.funcs[k].blocks[l].fin.to.length m3] 49)) rfl rfl rfl (by go_simp) hS3 ?_);refine qm (i:=13) bK (v7 69 _ _ 36 rfl rfl rfl rfl 49 iB _ 6 96 Tryz.underlying36 j1 j2 j3 j4 rfl (by decide) qM (v:=.slice pb l cb) (by go_simp) (HO2.out.below qM ((zI _ _).alloc (zK _) _)) ⟨w2.heap.size,0,none⟩ 1 [.slice p1 u.funcs[k].blocks[l].phis.length m1,.slice p2 u.funcs[k].blocks[l].list.length m2,Z u.funcs[k].blocks[l].fin.kind,.bool u.funcs[k].blocks[l].fin.onr,Z u.funcs[k].blocks[l].fin.onn,.slice p3 u.funcs[k].blocks[l].fin.to.length m3] u.funcs[k].blocks[l] (by go_simp) rfl ?hn ?ho (T:=T) ?hy ?ha ?ht ?hm ?hb ?_)
    case hn=>exact zW _ _ _ rfl
    case ho=>intro u hu;simp only[yC,yG,yl]at hu;rcases hu with rfl|rfl|rfl|rfl|rfl|rfl<;>rfl
    case hy=>exact qM _ _ _ _ _ HT2.out (fun k hk=>xG _ _ k (HTi.out k hk)) bV
    case ha=>exact fun b h1 h2=>by have:=HOB.out.inb b h1;have:=HTl.out b h2;omega
    case ht=>exact HTi.out.mono bV
    case hm=>unfold maxLen;simp;omega
    case hb=>simp;omega
    intro v2 w4 ⟨S',hO4,hsub,hK4⟩;obtain⟨pv,cv,hv2,_⟩:=hO4.val;have hv3:v2 = .slice pv (l+1) cv:=(by rw[hv2];congr 1;simp;omega);clear hv2;subst hv3;have hum:∀b,SB b->w.heap.size<b/\b≠wo.heap.size:=fun b h=>by have:=HLB.out b h;omega
    have hS4:Sp w4:=hSk hS3 hK4 hum;refine⟨hS4,?_⟩;refine tkZ 14 70 (.pointer (some (J wo.heap.size 3))) rfl rfl hS4 (fun w' h=>?_) ?_
    ·obtain⟨h1,h2,h3,h4,h5,h6⟩:=ha6 w' h;go_simp
    obtain⟨h1,h2,h3,h4,h5,h6⟩:=ha6 w4 hS4;clear h2 h3 h4;refine qm (i:=15) bK (qz (w4.setCell (J wo.heap.size 3) (.slice pv (l+1) cv)) rfl rfl rfl (by go_simp) (fun h=>absurd rfl h) (qL bK ?_ _));show Exit.inBlock 5 _ Exit.normal _ _
    have hrel:(∃S,SlO 49 6 BlkO (w4.setCell (J wo.heap.size 3) (.slice pv (l+1) cv)) (.slice pv (l+1) cv) (u.funcs[k].blocks.take (l+1)) S/\LoB WI.heap.size S)/\(w4.setCell (J wo.heap.size 3) (.slice pv (l+1) cv)).heap[wo.heap.size]?=some (.cells #[.string u.funcs[k].name,Z u.funcs[k].params,Z u.funcs[k].regs,.slice pv (l+1) cv] 38 (0,0))/\Kept (fun b=>b=wo.heap.size) WI (w4.setCell (J wo.heap.size 3) (.slice pv (l+1) cv)):=by
     have hlo:LoB WI.heap.size S':=fun i hi=>by
      rcases hsub i hi with h|h|h
      ·exact HLB.out i h
      ·have:=HTl.out i h;omega
      simp at h;omega
     have e4:w4.heap[wo.heap.size]?=some (.cells #[.string u.funcs[k].name,Z u.funcs[k].params,Z u.funcs[k].regs,.slice pb l cb] 38 (0,0)):=by
      rw[hSp]at hS4;exact hS4.1
     refine⟨⟨S',?_,hlo⟩,?_,?_⟩
     ·have hO9:SlO 49 6 BlkO w4 (.slice pv (l+1) cv) (u.funcs[k].blocks.take (l+1)) S':=by first|exact hO4|(rw[yA hll];exact hO4)
      exact hO9.loc qM (fun i hi=>zJ _ _ _ _ (fun e=>by have:=hlo i hi;have e2:i=wo.heap.size:=e;omega)) (by simp[World.setCell])
     ·rw[qj e4 3 _];rfl
     have kA:Kept (fun b=>b=wo.heap.size) WI w2:=HKB.out.trans (Kept.of_below (S:=fun _=>False) HB2.out) (fun _ _ h=>h.elim);exact((kA.alloc _).trans hK4 (fun i hi h=>by have:=HLB.out i h;omega)).setCell rfl _
    have ha7:=q8 hrel;clear hrel hS4 h1 h5 h6 hO4 hsub hK4 hS3 hS2 hS1 hbI hSk ha6 hSp
    go_wp2_with fail
    exact⟨⟨l+1,.slice pv (l+1) cv,by omega,by go_num,ha7.out.1,ha7.out.2.1,ha7.out.2.2⟩,by simp[intOf];omega⟩
end Go.Proofs.YtgjjhadbjmcnpaaGreatDoor
namespace Go.Proofs.YtgjjhadbjmcnpaaGreatDoor
open Go.RowKit

def Zc (xs:List FunL):Int:=match xs.findIdx? xS with
 | some k=>k
 | none=>-1
theorem Jl {xs:List FunL} {k:Nat} (hk:k<xs.length) (h:xS xs[k]=true) (hb:∀j (hj:j<xs.length),j<k->xS xs[j]=false):Zc xs=(k:Int):=by
 unfold Zc;rw[List.findIdx?_eq_some_iff_getElem.2 ⟨hk,h,fun j hj=>by simp[hb j bO hj]⟩]
theorem YQ {xs:List FunL} (hb:∀j (hj:j<xs.length),xS xs[j]=false):Zc xs = -1:=by
 unfold Zc;rw[List.findIdx?_eq_none_iff.2 fun x hx=>?_];obtain⟨i,hi,rfl⟩:=yp.1 hx;exact hb i hi

theorem manyR_any (f:FunL) (bp:Option Addr) (bc:Nat) (w:World) (h40:f.blocks.length<=40) (hb:SliceAt w 6 (BlkR w) bp f.blocks) :
  Calls Tryz.prog 38 #[.agg #[.string f.name,Z f.params,Z f.regs,.slice bp f.blocks.length bc]] w fun e w'=>e = .returned (Z (xu f))/\Below w.heap.size w w':=by
 have HB:=q8 hb;clear hb
 go_enter Tryz.func38,Tryz.ntmps38
 go_wp2
 go_loopw [3,4] (fun m i wr=>∃(k:Nat) (x:Int),k<=f.blocks.length/\i=Z k/\m=Z x/\(x=jZ f k/\jZ f k<=k*10000000000000)/\Below (w.heap.size+1) (w.alloc (.cells #[.string f.name,Z f.params,Z f.regs,.slice bp f.blocks.length bc] 38)) wr) (fun _ i _=>f.blocks.length - (intOf i).toNat)
 case atStart=>exact⟨0,0,by omega,rfl,rfl,by simp[jZ],zI _ _⟩
 case round=>
  obtain⟨k,x,hk,rfl,rfl,hV,hb⟩:=hrel;have HV:=q8 hV;have HBw:=q8 hb;have HBx:Hid (Below w.heap.size w wr):=((zI _ _).alloc (zK _) _).trans (hb.mono bO);have hz:w.heap.size<wr.heap.size:=by have:=hb.size;simp at this;omega
  obtain⟨hcc,hcf⟩:=blk (qg hb bO (qB w _));clear hV hb
  by_cases hlt:k<f.blocks.length
  ·obtain⟨b2,o2,q1,c1,q2,c2,q3,c3,hp,e0,e1,e2,e3,e4,e5,_,_,hl1,hl2,_,_,_,_⟩:=vw HB.out HBx.out hlt;subst hp
   go_wp2
   go_quiet (fail)
   go_wp2
   refine⟨⟨k+1,_,by omega,by go_num,rfl,?_,?_⟩,by simp[intOf];omega⟩
   ·obtain⟨h1,h2⟩:=HV.out;rw[Qa f k hlt];refine⟨?_,by omega⟩;rw[IntWalk.wrap64_in (x+_) ⟨by omega,by omega⟩,IntWalk.wrap64_in _ ⟨by omega,by omega⟩,h1];omega
   exact below_drewN HBw.out _
  have HM:Hid (x=xu f):=by
   show _=_;have:=HV.out.1;rw[show k=f.blocks.length by omega,QN]at this;exact this
  go_wp2
  go_ret
  refine⟨?_,HBx.out⟩;rw[HM.out];rfl

theorem Kb (xs:List FunL) (q1 fp:Option Addr) (n1 c1 fc:Nat) (w:World) (hn:xs.length<=140737488355328) (hF:SliceAt w 4 (FunR w) fp xs) :
  Calls Tryz.prog 13 #[.agg #[.slice q1 n1 c1,.slice fp xs.length fc]] w fun e w'=>e = .returned (Z (Zc xs))/\Below w.heap.size w w':=by
 have HF:=q8 hF;clear hF
 go_enter Tryz.func13,Tryz.ntmps13
 go_wp2
 go_loopw [3] (fun i wr=>∃k:Nat,k<=xs.length/\i=Z k/\(∀j (h:j<xs.length),j<k->xS xs[j]=false)/\Below (w.heap.size+1) (w.alloc (.cells #[.slice q1 n1 c1,.slice fp xs.length fc] 25)) wr) (fun i _=>xs.length - (intOf i).toNat)
 case atStart=>exact⟨0,by omega,rfl,fun j _ h=>by omega,zI _ _⟩
 case round=>
  obtain⟨k,hk,rfl,hV,hb⟩:=hrel;have HV:=q8 hV;have HBw:=q8 hb;have hz:w.heap.size<wr.heap.size:=by have:=hb.size;simp at this;omega
  have hbw:Below w.heap.size w wr:=((zI _ _).alloc (zK _) _).trans (hb.mono bO);have HBx:=q8 hbw;obtain⟨hcc,hcf⟩:=blk (qg hb bO (qB _ _));clear hV hb hbw
  by_cases hlt:k<xs.length
  rotate_left
  ·have HE:Hid (Zc xs = -1):=YQ fun j hj=>HV.out j hj bO
   go_wp2_with fail
   go_ret
   exact⟨by rw[HE.out];rfl,HBx.out⟩
  obtain⟨b2,o2,q,c,hp,e0,e1,e2,e3,_,i1,i2,hbl,hbs⟩:=Q1 HF.out HBx.out hlt;subst hp;have HS:=q8 hbs;clear hbs;have HN:=q8 (HBw.out.alloc bO (.cells #[.string xs[k].name,Z xs[k].params,Z xs[k].regs,.slice q xs[k].blocks.length c] 38));have HNx:=q8 (HBx.out.alloc bO (.cells #[.string xs[k].name,Z xs[k].params,Z xs[k].regs,.slice q xs[k].blocks.length c] 38))
  by_cases h1:40<xs[k].blocks.length
  ·have hm:xS xs[k]=true:=(by simp[xS,h1]);have HE:Hid (Zc xs=(k:Int)):=Jl hlt hm fun j hj hjk=>HV.out j hj hjk;clear hm
   go_wp2_with fail
   go_ret
   exact⟨by rw[HE.out];rfl,HNx.out⟩
  have hS1:SliceAt (wr.alloc (.cells #[.string xs[k].name,Z xs[k].params,Z xs[k].regs,.slice q xs[k].blocks.length c] 38)) 6 (BlkR (wr.alloc (.cells #[.string xs[k].name,Z xs[k].params,Z xs[k].regs,.slice q xs[k].blocks.length c] 38))) q xs[k].blocks:=HS.out.mono ((zI _ _).alloc (zK _) _) bO fun _ _ h=>h.below ((zI _ _).alloc (zK _) _);have HMa:=q8 (manyR_any xs[k] q c _ bO hS1);clear hS1
  by_cases h2:300<xu xs[k]
  ·have hm:xS xs[k]=true:=(by simp[xS,h2]);have HE:Hid (Zc xs=(k:Int)):=Jl hlt hm fun j hj hjk=>HV.out j hj hjk;clear hm
   go_wp2_with (go_at_call 38;refine HMa.out.mono ?_;rintro e w1 ⟨rfl,hb1⟩;have HB1:=q8 hb1;clear hb1)
   go_ret
   exact⟨by rw[HE.out];rfl,HNx.out.trans (HB1.out.mono (by have:=HNx.out.size;exact this))⟩
  by_cases h3:100<xs[k].regs
  ·have hm:xS xs[k]=true:=(by simp[xS,h3]);have HE:Hid (Zc xs=(k:Int)):=Jl hlt hm fun j hj hjk=>HV.out j hj hjk;clear hm
   go_wp2_with (go_at_call 38;refine HMa.out.mono ?_;rintro e w1 ⟨rfl,hb1⟩;have hFw:=qg hb1 (k:=wr.heap.size) bV (qB _ _);obtain⟨hfc,hff⟩:=blk hFw;have zf:=qd hFw;have HB1:=q8 hb1;clear hb1 hFw)
   go_ret
   exact⟨by rw[HE.out];rfl,HNx.out.trans (HB1.out.mono (by have:=HNx.out.size;exact this))⟩
  have hm:xS xs[k]=false:=by simp[xS];omega
  have HM:=q8 hm;clear hm
  go_wp2_with (go_at_call 38;refine HMa.out.mono ?_;rintro e w1 ⟨rfl,hb1⟩;have hFw:=qg hb1 (k:=wr.heap.size) bV (qB _ _);obtain⟨hfc,hff⟩:=blk hFw;have zf:=qd hFw;have HB1:=q8 hb1;clear hb1 hFw)
  refine⟨⟨k+1,by omega,by go_num,fun j hj hjk=>?_,HN.out.trans (HB1.out.mono (by have:=HN.out.size;simp at this ⊢;omega))⟩,by simp[intOf];omega⟩
  by_cases hj2:j<k
  ·exact HV.out j hj hj2
  obtain rfl:j=k:=by omega
  exact HM.out

theorem SlO.focusN {α:Type} {e:TypeId} {size:Nat} {R:ElemO α} {w:World} {v:Value} {xs:List α} {S:Blks} (hR:kY R) (hsz:0<size) (h:SlO e size R w v xs S) {i:Nat} (hi:i<xs.length):∃g c cs T,v = .slice (some (J g 0)) xs.length c/\g<w.heap.size/\S g/\cs.length=size/\R w cs xs[i] T/\¬ T g/\(∀k,T k->S k)/\
  (∀j,j<size->w.cell? (J g (i*size+j))=cs[j]?)/\(∀o,w.frozen? (J g o)=false)/\(∃cur,w.heap[g]?=some (.cells cur e (0,0)))/\
  ∀(w':World) (cs':List Value) (x':α) (T':Blks),RowPut w w' e g (i*size) size cs'->cs'.length=size->(∀u∈cs',u.oneCell'=true)->w.heap.size<=w'.heap.size->(∀k,S k->¬ T k->k≠g->w'.heap[k]?=w.heap[k]?)->
   R w' cs' x' T'->(∀k,T' k->(T k\/¬ S k)/\k<w'.heap.size)->SlO e size R w' v (xs.set i x') (fun k=>S k\/T' k):=by
 obtain⟨cs,T,h⟩:=h;rcases h.own.2 with⟨_,h2⟩|⟨g,cap,cur,hv,hb,hg,hc1,hc2,hc3,htk⟩
 ·omega
 have hgs:=(yL.1 hg).1
 have hcell:∀m j,m<xs.length->j<size->cur[m*size+j]?=(cs m)[j]?:=fun m j hm hj=>by
  have hlt:m*size+j<xs.length*size:=by
   have:(m+1)*size<=xs.length*size:=ye _ hm;rw[Nat.add_mul]at this;omega
  rw[←xZ xs.length h.len m j hm hj,←htk,List.getElem?_take_of_lt hlt,xJ]
 have hob:v.ownBlock=some g:=by rw[hv];rfl
 refine⟨g,cap,cs i,T i,hv,hgs,h.blk g hob,h.len i hi,h.el i hi,h.off i hi g hob,h.sub i hi,fun j hj=>?_,fun o=>(blk hg).2 o,⟨cur,hg⟩,?_⟩
 ·rw[cell_of_row w g _ cur e (0,0) hg];exact hcell i j hi hj
 rintro w' cs' x' T' ⟨cu,cur',p1,p2,p3,p4,p5⟩ hl' h1' hs hk hR' hT';rw[hg]at p1;cases p1;have hlen:(xs.set i x').length=xs.length:=by simp
 refine⟨fun m=>if m=i then cs' else cs m,fun m=>if m=i then T' else T m,?_,fun m hm=>?_,fun m hm=>?_,fun m hm=>?_,fun m n hm hn hmn=>?_,fun m hm g' hg'=>?_,fun g' hg'=>.inl (h.blk g' hg'),fun m hm k hk2=>?_,?_⟩
 ·rw[hlen]
  have hlc:∀m,m<xs.length->(if m=i then cs' else cs m).length=size:=fun m hm=>by
   split
   ·exact hl'
   exact h.len m hm
  refine⟨by rw[zR _ hlc],.inr ⟨g,cap,cur',hv,hb,p2,hc1,hc2,by rw[p3];exact hc3,?_⟩⟩;have hle:xs.length*size<=cap*size:=ye _ hc1;refine XK h.len hlc hsz bW fun m j hm hj=>?_
  have hlt:m*size+j<xs.length*size:=by
   have:(m+1)*size<=xs.length*size:=ye _ hm;rw[Nat.add_mul]at this;omega
  rw[List.getElem?_take_of_lt hlt,xJ]
  by_cases e1:m=i
  ·subst e1;rw[zZ rfl];exact p4 j hj
  rw[zQ e1,p5 _ ?_]
  ·exact hcell m j hm hj
  rcases yq m i with a|a
  ·left;have:(m+1)*size<=i*size:=ye _ a;rw[Nat.add_mul]at this;omega
  right;have:(i+1)*size<=m*size:=ye _ bO;rw[Nat.add_mul]at this;omega
 ·rw[hlen]at hm
  split
  ·exact hl'
  exact h.len m hm
 ·rw[hlen]at hm
  split
  ·exact h1'
  exact h.one m hm
 ·have hm2:m<xs.length:=by rw[←hlen];exact hm
  by_cases e1:m=i
  ·subst e1;simpa using hR'
  simp only[zQ e1,List.getElem_set_ne (Ne.symm e1)];refine hR _ _ _ _ _ (h.el m hm2) (fun k hk2=>hk k (h.sub m hm2 k hk2) (fun hk3=>h.two m i hm2 hi e1 k hk2 hk3) (fun e2=>h.off m hm2 g hob (by rw[←e2];exact hk2))) hs
 ·rw[hlen]at hm hn
  have key:∀m,m<xs.length->m≠i->Apart T' (T m):=fun m hm hmi k a b=>by
   rcases (hT' k a).1 with c|c
   ·exact h.two m i hm hi hmi k b c
   exact c (h.sub m hm k b)
  split
  ·next e1=>
   rw[zQ bO];exact key n hn bO
  next e1=>
  split
  ·exact(key m hm e1).symm
  exact h.two m n hm hn hmn
 ·rw[hlen]at hm;rw[hob]at hg';cases hg'
  split
  ·intro a;rcases (hT' _ a).1 with c|c
   ·exact h.off i hi _ hob c
   exact c (h.blk _ hob)
  exact h.off m hm _ hob
 ·rw[hlen]at hm
  split at hk2
  ·exact .inr hk2
  exact .inl (h.sub m hm k hk2)
 rintro k (a|a)
 ·exact(h.inb.mono hs) k a
 exact(hT' k a).2
theorem head_put {W:World} {g n c k:Nat} {xs:List FunL} {S:Blks} (h:SlO 38 4 FunO W (.slice (some (J g 0)) n c) xs S) (hk:k<xs.length) (h0:0<xs[k].blocks.length) :
  ∃bb cb ql cl SL,W.cell? (J g (k*4+3))=some (.slice (some (J bb 0)) xs[k].blocks.length cb)/\S bb/\S g/\bb≠g/\(∀o,W.frozen? (J bb o)=false)/\W.cell? (J bb 1)=some (.slice ql xs[k].blocks[0].list.length cl)/\SlQ 51 8 80 InsO W (.slice ql xs[k].blocks[0].list.length cl) xs[k].blocks[0].list SL/\(∀i,SL i->S i)/\¬ SL bb/\
   ∀(W1 W2:World) (v':Value) (hd:List InsL) (S':Blks),(∀b,S b->W1.heap[b]?=W.heap[b]?)->W.heap.size<=W1.heap.size->SlQ 51 8 80 InsO W1 v' (hd++xs[k].blocks[0].list) S'->(∀b,S' b->SL b\/¬ S b)->W2=W1.setCell (J bb 1) v'->
    SlO 38 4 FunO W2 (.slice (some (J g 0)) n c) (xs.modify k (zF hd)) (fun b=>S b\/S' b):=by
 obtain⟨g',c',cs',T',hv',hhg,hdW,hcl',hF',hdB,ha9,hbZ,hje,⟨cur',hcQ⟩,hcS⟩:=h.focusN qK bO hk
 obtain rfl:g=g':=by
  injection hv' with a;injection a with a;injection a
 obtain⟨v,hcs,hnm,i1,i2,hB⟩:=hF';obtain⟨bb,cb,cB,TB,hvb,hbz,hTb,hlB,hed,hnb,hTB,hcB,hfB,⟨curB,hcG⟩,hput⟩:=hB.sl.focusN qM bO h0;obtain⟨v1,v2,v3,S1,S2,S3,rfl,j1,j2,h3,h4,h5,a1,a2,a3,g1,g2,g3⟩:=hed;subst hcs hvb;have hbg:bb≠g:=fun e=>hdB (e ▸ hTb);obtain⟨ql,cl,hv2,_,_⟩:=h4.sl.val;subst hv2;have e0:W.cell? (J bb (0*6+1))=_:=hcB 1 bO;rw[Nat.zero_mul,yx]at e0;refine⟨bb,cb,ql,cl,S2,hbZ 3 bO,ha9 _ hTb,hdW,hbg,hfB,e0,h4,fun i hi=>ha9 _ (hTB _ (g2 i hi)),fun hh=>hnb (g2 _ hh),fun W1 W2 v' hd S' hb hz hL hsub hW2=>?_⟩;have hz1:bb<W1.heap.size:=by omega
 have hP:PutAt W1 W2 bb (0*6+1) v':=by rw[hW2];exact .set (Kept.refl _ _) bb 1 hz1 v'
 have hsz:W1.heap.size=W2.heap.size:=by rw[hW2];simp[World.setCell]
 have hoth:∀b,S b->b≠bb->W2.heap[b]?=W.heap[b]?:=fun b hb1 hb2=>by
  rw[hW2,zJ _ _ _ _ (by show b≠bb;exact hb2)];exact hb b hb1
 have hnew:∀b,S' b->b≠bb:=fun b hb1 e=>by
  rcases hsub b hb1 with x|x
  ·exact hnb (g2 _ (e ▸ x))
  exact x (e ▸ ha9 _ hTb)
 have hL2:SlQ 51 8 80 InsO W2 v' (hd++xs[k].blocks[0].list) S':=⟨hL.sl.kept qT hP.kept (fun b e hb1=>hnew b hb1 e),hL.bd⟩;have hkeep:∀b,TB b->W2.heap[b]?=W.heap[b]?:=fun b hb2=>hoth b (ha9 _ (hTB _ hb2)) (fun e=>hnb (e ▸ hb2));have hzz:W.heap.size<=W2.heap.size:=by omega
 have hF2:=hput W2 _ { xs[k].blocks[0]with list:=hd++xs[k].blocks[0].list } (fun b=>TB b\/S' b) ((RowPut.same hcG (hb bb (ha9 _ hTb)) hcB:RowPut W W1 49 bb (0*6) 6 _).put1 (j:=1) rfl bO hP) rfl (fun u hu=>by
   simp only[yZ,yQ,yC,yG,yl]at hu
   have hx3:∀{α:Type} {e:TypeId} {sz bt:Nat} {R:ElemO α} {w:World} {v:Value} {l:List α} {S:Blks},SlQ e sz bt R w v l S->v.oneCell'=true:=fun hq=>by
    obtain⟨p,c,e,_⟩:=hq.sl.val;rw[e];rfl
   rcases hu with rfl|rfl|rfl|rfl|rfl|rfl
   ·exact hx3 h3
   ·exact hx3 hL
   ·rfl
   ·rfl
   ·rfl
   exact hx3 h5) hzz (fun b hb1 hb2 hb3=>hoth b (ha9 _ hb1) hb3)
  (by
   refine⟨v1,v',v3,S1,S',S3,rfl,j1,j2,h3.loc x8 (fun _ g=>g) (fun b hb2=>hkeep b (g1 b hb2)) hzz,hL2,h5.loc xk (fun _ g=>g) (fun b hb2=>hkeep b (g3 b hb2)) hzz,fun b x y=>?_,a2,fun b x y=>?_,fun b x=>.inl (g1 b x),fun b x=>.inr x,fun b x=>.inl (g3 b x)⟩
   ·rcases hsub b y with y|y
    ·exact a1 b x y
    exact y (ha9 _ (hTB _ (g1 b x)))
   rcases hsub b x with x|x
   ·exact a3 b x y
   exact x (ha9 _ (hTB _ (g3 b y))))
  (fun b hb2=>by
   rcases hb2 with x|x
   ·exact⟨.inl x,by have:=h.inb b (ha9 _ (hTB _ x));omega⟩
   refine⟨?_,hL2.sl.inb b x⟩;rcases hsub b x with y|y
   ·exact .inl (g2 b y)
   exact .inr fun hh=>y (ha9 _ hh))
 have hgk:W2.heap[g]?=W.heap[g]?:=hoth g hdW (fun e=>hbg e.symm)
 have hF3:=hcS W2 _ (zF hd xs[k]) (fun b=>T' b\/(TB b\/S' b)) (RowPut.same hcQ hgk hbZ) hcl' (fun u hu=>by
   simp only[yC,yG,yl]at hu
   rcases hu with rfl|rfl|rfl|rfl<;>rfl) hzz (fun b hb1 hb2 hb3=>hoth b hb1 (fun e=>hb2 (e ▸ hTb)))
  ⟨_,rfl,hnm,i1,i2,(by rw[vI h0 fun b=>{ b with list:=hd++b.list }]at hF2;exact hF2),?_⟩ (fun b hb2=>?_)
 ·rw[←vI hk];refine hF3.grow (fun b hb2=>?_) (fun b hb2=>?_)
  ·rcases hb2 with x|x|x|x
   ·exact .inl x
   ·exact .inl (ha9 _ x)
   ·exact .inl (ha9 _ (hTB _ x))
   exact .inr x
  rcases hb2 with x|x
  ·have:=h.inb b x;omega
  exact hL2.sl.inb b x
 ·show((xs[k].blocks.modify 0 _).length)*96<=_;rw[List.length_modify];exact hB.bd
 rcases hb2 with x|x|x
 ·exact⟨.inl x,by have:=h.inb b (ha9 _ x);omega⟩
 ·exact⟨.inl (hTB _ x),by have:=h.inb b (ha9 _ (hTB _ x));omega⟩
 refine⟨?_,hL2.sl.inb b x⟩;rcases hsub b x with y|y
 ·exact .inl (hTB _ (g2 b y))
 exact .inr y

def vL (i c:Nat) (l:List InsL):List InsL:=l.mapIdx fun j x=>if j<i then { x with dst:=((c+j:Nat):Int) } else x
theorem vM (i c:Nat) (l:List InsL):(vL i c l).length=l.length:=by simp[vL]
theorem YR (c:Nat) (l:List InsL):vL 0 c l=l:=by
 refine yV (vM _ _ _) fun j h1 h2=>?_;simp[vL]
theorem dstTo_at {i c:Nat} {l:List InsL} (h:i<(vL i c l).length):(vL i c l)[i]=l[i]'(by rwa [vM]at h):=by simp[vL]
theorem YS {i c:Nat} {l:List InsL} (h:i<l.length):(vL i c l).set i { l[i]with dst:=((c+i:Nat):Int) }=vL (i+1) c l:=by
 refine yV (by simp[vL]) fun j h1 h2=>?_;have hj:j<l.length:=by rwa [vM]at h2
 by_cases e:i=j
 ·subst e;simp[vL]
 rw[List.getElem_set_ne e];have:j<i+1↔j<i:=by omega
 simp[vL,this]
theorem YT {K D:List Nat} {n:Nat} {num:Nat->Int} (hp:Perm (K++D) n):vL D.length K.length (D.map fun o:Nat=>j8 0 (num o))=D.map fun o:Nat=>j8 (gL (K++D) o) (num o):=by
 refine yV (by simp[vL]) fun j h1 h2=>?_;have hj:j<D.length:=by simpa using h2
 have h3:K.length+j<(K++D).length:=by rw[yN];omega
 have h4:=Jf hp h3;rw[List.getElem_append_right bO]at h4;simp only[Nat.add_sub_cancel_left]at h4;simp only[vL,List.getElem_mapIdx,xE,zZ hj,h4];rfl
theorem dst_step {wo:World} {pv:Option Addr} {vc i c:Nat} {l:List InsL} {Sv:Blks} (h:SlO 51 8 InsO wo (.slice pv l.length vc) (vL i c l) Sv) (hi:i<l.length) :
  ∃gh d,pv=some (J gh 0)/\wo.cell? (J gh (i*8+1))=some (Z d)/\(∀o,wo.frozen? (J gh o)=false)/\(c+i<=1000->SlO 51 8 InsO (wo.setCell (J gh (i*8+1)) (Z ((c+i:Nat):Int))) (.slice pv l.length vc) (vL (i+1) c l) Sv/\Kept Sv wo (wo.setCell (J gh (i*8+1)) (Z ((c+i:Nat):Int)))):=by
 have hi2:i<(vL i c l).length:=by rwa [vM]
 obtain⟨gh,c2,cs',Tq,hv2,hgz,hTg,hcl,hV,hnT,hTS,hce,hfz,⟨cur2,haa⟩,hput⟩:=h.focus qT bO hi2;rw[dstTo_at hi2]at hV;obtain⟨v,hcs,i1,i2,i3,i4,i5,hs⟩:=hV;subst hcs;refine⟨gh,_,by injection hv2,hce 1 bO,hfz,fun hc=>?_⟩;have hR:=(RowW.start (RowPut.same haa rfl hce)).set (j:=1) (v:=Z ((c+i:Nat):Int)) rfl bO;have hK:Kept Sv wo (wo.setCell (J gh (i*8+1)) (Z ((c+i:Nat):Int))):=hR.kept.mono fun j _ e=>by(have e:j=gh:=e);exact e ▸ hTg
 refine⟨?_,hK⟩;obtain⟨qs,cs,rfl,_,_⟩:=hs.sl.val
 have h1:=hput _ _ { l[i]with dst:=((c+i:Nat):Int) } Tq hR.row rfl (fun u hu=>by
   simp only[yZ,yQ,yC,yG,yl]at hu
   rcases hu with rfl|rfl|rfl|rfl|rfl|rfl|rfl|rfl<;>rfl) hK.size (fun b hb h1 h2=>hR.kept.block b (h.inb b hb) h2) ⟨_,rfl,i1,by unfold I64;dsimp only;omega,i3,i4,i5,⟨hs.sl.kept zq hR.kept (fun j e hj=>hnT (by(have e:j=gh:=e);exact e ▸ hj)),hs.bd⟩⟩ (fun b hb=>⟨.inl hb,by have:=h.inb b (hTS b hb);have:=hK.size;omega⟩)
 rw[YS hi]at h1;exact h1.grow (fun b hb=>hb.elim id (hTS b)) (fun b hb=>by have:=h.inb b hb;have:=hK.size;omega)

theorem BlkO.reads {w:World} {xs:List BlkL} {S:Blks} {q:Option Addr} {n c:Nat} (h:SlO 49 6 BlkO w (.slice q n c) xs S):SliceAt w 6 (BlkR w) q xs:=by
 obtain⟨p',c',e,_,_,h2⟩:=h.read (R':=BlkR w) qM bO fun _ _ _ h=>h.read;cases e;exact h2
theorem ins_bd {a p:Nat} (h:a<=p) (h6:p<=6):a+1<=maxLen/\(a+1)*80<=140737488355328:=by
 unfold maxLen;omega
theorem OutC.oth {L O g c c1:Nat} {p1:Option Addr} {gl:List GloL} {xs:List FunL} {S1 S2 Sv:Blks} {W W':World} (h:OutC L O g c p1 c1 gl xs S1 S2 W) (hk:Kept Sv W W') (n1:∀b,S1 b->¬ Sv b) (n2:∀b,S2 b->¬ Sv b) (nO:¬ Sv O):OutC L O g c p1 c1 gl xs S1 S2 W':=
 ⟨(hk.block O h.lt nO).trans h.out,⟨h.glo.sl.loc xl (fun b hb=>hk.block b (h.glo.sl.inb b hb) (n1 b hb)) hk.size,h.glo.bd⟩,h.fn.kept qK hk (fun b a e=>n2 b e a),h.ap,h.l1,h.l2⟩
theorem OutC.head {L O g c c1 k:Nat} {p1:Option Addr} {gl:List GloL} {xs:List FunL} {S1 S2:Blks} {W:World} (h:OutC L O g c p1 c1 gl xs S1 S2 W) (hL:L<=W.heap.size) (hk:k<xs.length) (h0:0<xs[k].blocks.length) :
  ∃bb cb ql cl SL,W.cell? (J g (k*4+3))=some (.slice (some (J bb 0)) xs[k].blocks.length cb)/\S2 bb/\S2 g/\(∀o,W.frozen? (J bb o)=false)/\W.cell? (J bb 1)=some (.slice ql xs[k].blocks[0].list.length cl)/\SlO 51 8 InsO W (.slice ql xs[k].blocks[0].list.length cl) xs[k].blocks[0].list SL/\(∀i,SL i->S2 i)/\
   ∀(W1:World) (v':Value) (hd:List InsL) (Sv S':Blks),Kept Sv W W1->(∀b,S1 b->¬ Sv b)->(∀b,S2 b->¬ Sv b)->(∀b,Sv b->L<=b/\b≠O)->SlO 51 8 InsO W1 v' (hd++xs[k].blocks[0].list) S'->(hd++xs[k].blocks[0].list).length*80<=reachBytes->(∀b,S' b->Sv b\/SL b\/W.heap.size<=b)->
    OutC L O g c p1 c1 gl (xs.modify k (zF hd)) S1 (fun b=>S2 b\/S' b) (W1.setCell (J bb 1) v')/\Below L W (W1.setCell (J bb 1) v'):=by
 obtain⟨bb,cb,ql,cl,SL,e3,hbb,hg,_,hfr,e1,hQ,hSL,_,hput⟩:=head_put h.fn hk h0;refine⟨bb,cb,ql,cl,SL,e3,hbb,hg,hfr,e1,hQ.sl,hSL,fun W1 v' hd Sv S' hK n1 n2 nL hS hl hS'=>?_⟩;have hzO:=h.lt;have hbO:O≠bb:=fun e=>(h.l2 bb hbb).2 e.symm;have hL1:=(h.l2 bb hbb).1;have hsz:=hK.size;have hk2:Kept (fun i=>i=bb) W1 (W1.setCell (J bb 1) v'):=(Kept.refl (fun i=>i=bb) W1).setCell (p:=(J bb 1)) rfl _
 have hfn:=hput W1 _ v' hd S' (fun b hb=>hK.block b (h.fn.inb b hb) (n2 b hb)) hsz ⟨hS,hl⟩ (fun b hb=>by
  rcases hS' b hb with a|a|a
  ·exact .inr fun e=>n2 b e a
  ·exact .inl a
  exact .inr fun e=>by have:=h.fn.inb b e;omega) rfl
 have hO1:=h.oth hK n1 n2 (fun e=>(nL O e).2 rfl);have hlen:(xs.modify k (zF hd)).length=xs.length:=List.length_modify ..;refine⟨⟨?_,⟨hO1.glo.sl.kept xl hk2 (fun b e hb=>h.ap b hb (by(have e:b=bb:=e);rw[e];exact hbb)),h.glo.bd⟩,by rw[hlen];exact hfn,fun b x y=>?_,h.l1,fun b hb=>?_⟩,?_⟩
 ·rw[hlen];exact(hk2.block O hO1.lt hbO).trans hO1.out
 ·rcases y with y|y
  ·exact h.ap b x y
  rcases hS' b y with z|z|z
  ·exact n1 b x z
  ·exact h.ap b x (hSL b z)
  have:=h.glo.sl.inb b x;omega
 ·rcases hb with y|y
  ·exact h.l2 b y
  rcases hS' b y with z|z|z
  ·exact nL b z
  ·exact h.l2 b (hSL b z)
  omega
 exact(hK.below hL fun b hb=>(nL b hb).1).trans (hk2.below bO fun b e=>by(have e:b=bb:=e);rw[e];exact hL1)
theorem Fit.turn {k n:Nat} {xs:List FunL} (h:Fit k xs) (hk:k<xs.length) (hn:xs[k].params=n) (h6:n<=6):Fit (k+1) (refA k xs):=by
 have e:jK xs k=n:=by rw[Qg hk];omega
 unfold refA;rw[e,QJ];refine(h.next (fun o ho _=>?_) ?_).pick (by simpa using hk) ?_ (K9 _ _ _)
 ·have:=yR.1 (yu.1 ho).1;omega
 ·exact yv (List.length_filter_le _ _) (by rw[List.length_range];exact h6)
 rw[List.getElem_modify,zZ rfl];exact hn
theorem ref_eq {k n:Nat} {xs:List FunL} (hk:k<xs.length) (hn:xs[k].params=n):refA k xs=(zS k (j9 k xs n) (j7 k xs n) xs).modify k (zF ((j7 k xs n).map fun o:Nat=>j8 (gL (j9 k xs n++j7 k xs n) o) (K7 k xs o))):=by
 have e:jK xs k=n:=by rw[Qg hk];omega
 unfold refA ZV;rw[e]
theorem psum_pick {k n:Nat} {K T:List Nat} {xs:List FunL} (hk:k<xs.length) (hn:xs[k].params=n) (hl:K.length<n):Z7 (zS k K T xs)<Z7 xs:=by
 have e:Z7 (zS k K T xs)=Z7 (xs.modify k (pickF K T)):=by
  unfold Z7 zS;rw[yy];rfl
 rw[e];exact Zu hk (by show((K.length:Nat):Int).toNat<_;omega)
theorem toF_range {f:FunL} {n:Nat} {st:Nat->Bool} (h:((List.range n).filter st).length=n):toF (gL ((List.range n).filter st++(List.range n).filter fun a=>!st a)) f=f/\(List.range n).filter st=List.range n:=by
 have e:(List.range n).filter st=List.range n:=by
  have:∀a∈List.range n,st a=true:=by
   rw[←List.length_filter_eq_length_iff,h,List.length_range]
  exact List.filter_eq_self.2 this
 have e2:((List.range n).filter fun a=>!st a)=[]:=by
  refine List.filter_eq_nil_iff.2 fun a ha=>?_;have:=List.filter_eq_self.1 e a ha;simp[this]
 rw[e,e2];refine⟨?_,rfl⟩
 have e3:gL (List.range n++[])=fun x=>x:=by
  funext r;rw[List.append_nil];unfold gL
  split
  ·next h1=>
   rw[ku (yR.1 h1.2)];omega
  rfl
 rw[e3,Y0]

theorem Vl (gl:List GloL) (ts:List FunL) (q1 q2:Option Addr) (d1 d2:Nat) (w:World) (hfit:Fit 0 ts) (hpos:0<ts.length) (hG:SlF w 3 48 (GloR w) (.slice q1 gl.length d1) gl) (hF:SlF w 4 56 (FunR w) (.slice q2 ts.length d2) ts) :
  Calls Tryz.prog 12 #[.agg #[.slice q1 gl.length d1,.slice q2 ts.length d2]] w fun e w'=>(∃(p1:Option Addr) (c1:Nat) (p2:Option Addr) (c2:Nat) (y r rs:List FunL),e = .returned (.agg #[.slice p1 gl.length c1,.slice p2 ts.length c2])/\(Stp ts y/\RenX y r/\Taken r/\TurnsR r r.length rs/\rs.length=ts.length)/\SlF w' 3 48 (GloR w') (.slice p1 gl.length c1) gl/\SlF w' 4 56 (FunR w') (.slice p2 ts.length c2) rs)/\Below w.heap.size w w':=by
 obtain⟨i1,t1,t2,t3,t4⟩:=info_parts Vb;obtain⟨iI,l1,l2,l3,l4⟩:=info_parts v6;have hmT:=hfit.n10;have hfv:=q8 hfit;have HGs:=q8 hG;have HFs:=q8 hF;clear hfit hG hF
 go_enter Tryz.func12,Tryz.ntmps12
 go_wp2_with fail
 obtain⟨W0,hW0⟩:=nZ ((w.alloc (.cells #[.slice q1 gl.length d1,.slice q2 ts.length d2] 25)).alloc (.cells #[.slice none 0 0,.slice none 0 0] 25));rw[←hW0];have hz0:W0.heap.size=w.heap.size+1+1:=by rw[hW0];simp
 have hb0:Below w.heap.size w W0:=by rw[hW0];exact bZ
 have HR0:Hid (W0.heap[w.heap.size+1]?=some (.cells #[.slice none 0 0,.slice none 0 0] 25 (0,0))):=q8 (by rw[hW0];exact qr bV);have hcl:=YP { globals:=gl,funcs:=ts } q1 q2 d1 d2 W0 (HGs.out.mono hb0 bO fun _ _ h=>h.below hb0) (HFs.out.mono hb0 bO fun _ _ h=>h.below hb0);have HB0:=q8 hb0;clear hW0 hb0;refine hcl.mono ?_;rintro e W1 ⟨⟨p1,c1,p2,c2,rfl,S,hS,hL⟩,hb1⟩;obtain⟨v1,v2,S1,S2,hv,hS1,hS2,hAp,hg1,hg2⟩:=hS;simp only[List.cons.injEq,and_true]at hv;obtain⟨rfl,rfl⟩:=hv;have hz1:=hb1.size;have HB1:=q8 (HB0.out.trans (hb1.mono bO));have HR1:=q8 ((hb1.block _ bO).trans HR0.out);obtain⟨g,cX,csF,TF,hvF,hgz,hgS,_⟩:=hS2.sl.focus qK bO hpos;simp only[Value.slice.injEq]at hvF;obtain⟨rfl,_,rfl⟩:=hvF;obtain⟨c,hcd⟩:=nZ c2;subst hcd;have hLo:∀k,S k->W0.heap.size<=k:=hL;have HS1:=q8 hS1;have HS2:=q8 hS2;have HAp:=q8 hAp;have HLo:=q8 (zh (fun k (h:S1 k)=>hLo k (hg1 k h)) (fun k (h:S2 k)=>hLo k (hg2 k h)));clear hcl hS1 hS2 hAp hg1 hg2 hL hLo hb1 hgS
 go_wp2_with fail
 obtain⟨O,hO⟩:=nZ W1.heap.size;obtain⟨W2,hW2⟩:=nZ (W1.alloc (.cells #[.slice p1 gl.length c1,.slice (some (J g 0)) ts.length c] 25));rw[←hW2,←hO];have hz2:W2.heap.size=O+1:=by rw[hW2,hO];simp
 have hb2:Below W1.heap.size W1 W2:=by rw[hW2];exact bZ
 have hqG:W2.heap[O]?=some (.cells #[.slice p1 gl.length c1,.slice (some (J g 0)) ts.length c] 25 (0,0)):=by rw[hW2,hO];exact qr rfl
 have HOC:Hid (OutC (w.heap.size+1+1) O g c p1 c1 gl ts S1 S2 W2):=q8 ⟨hqG,HS1.out.loc xl (fun _ h=>h) (fun i hi=>hb2.block i (HS1.out.sl.inb i hi)) hb2.size,HS2.out.sl.below qK hb2,HAp.out,fun k hk=>⟨by have:=HLo.out.1 k hk;omega,fun e=>by have:=HS1.out.sl.inb k hk;omega⟩,fun k hk=>⟨by have:=HLo.out.2 k hk;omega,fun e=>by have:=HS2.out.sl.inb k hk;omega⟩⟩;have HR2:=q8 ((hb2.block _ bO).trans HR1.out);have heZ:Hid (Below w.heap.size w W2):=q8 (HB1.out.trans (hb2.mono bO));have hOw:w.heap.size+1+1<=O:=by omega
 clear hW2 hO hb2 hqG HS1 HS2 HAp HLo HB1 HR1 HR0 HB0
 go_loopg [4] (2*Z7 ts+1) (fun q s wr=>∃(y r:List FunL) (S2:Blks) (a:Bool),q=2*Z7 r+(if a=true then 1 else 0)/\s = .bool a/\Stp ts y/\RenX y r/\Fit 0 r/\r.length=ts.length/\(a=false->Taken r)/\OutC (w.heap.size+1+1) O g c p1 c1 gl r S1 S2 wr/\Below (w.heap.size+1+1) W2 wr)
 case atStart=>exact⟨ts,ts,S2,true,rfl,rfl,.nil _,RenX.refl hfv.out.good.par,hfv.out,rfl,(fun h=>by cases h),HOC.out,zI _ _⟩
 case round=>
  obtain⟨wo,hwo⟩:=nZ wr;subst hwo;obtain⟨y,r,S2,a,rfl,rfl,hSt,hRx,hFi,hrl,hTk,hOC,hb⟩:=hrel;have HSt:=q8 hSt;have HRx:=q8 hRx;have HFi:=q8 hFi;have HRl:=q8 hrl;have HTk:=q8 hTk;have HOo:=q8 hOC;have HBo:=q8 hb;have hzo:=hb.size;clear hSt hRx hFi hrl hTk hOC hb;cases a
  rotate_left
  ·go_wp2_with fail
   go_loopg [4,5] r.length (fun q s4 s5 wr=>∃(k:Nat) (y' r':List FunL) (S2:Blks) (a:Bool),k<=r.length/\q=r.length - k/\s5=Z k/\s4 = .bool a/\Stp ts y'/\RenX y' r'/\Fit 0 r'/\r'.length=r.length/\(a=false->r'=r/\∀j (hj:j<r.length),j<k->Jj r[j]=[])/\(a=true->Z7 r'<Z7 r)/\OutC (w.heap.size+1+1) O g c p1 c1 gl r' S1 S2 wr/\Below (w.heap.size+1+1) W2 wr)
   case atStart=>exact⟨0,y,r,S2,false,by omega,rfl,rfl,rfl,HSt.out,HRx.out,HFi.out,rfl,(fun _=>⟨rfl,fun j _ h=>absurd h bO⟩),(fun h=>by cases h),HOo.out,HBo.out⟩
   case round=>
    obtain⟨wp,hwp⟩:=nZ wr;subst hwp;obtain⟨k,y',r',S3,a,hk,rfl,rfl,rfl,hqH,hqI,hfC,hrl2,hF,hT,hea,hb⟩:=hrel;have hfP:=q8 hqH;have hmW:=q8 hqI;have hbQ:=q8 hfC;have HF2:=q8 hF;have HT2:=q8 hT;have HOp:=q8 hea;have hjO:=q8 hrl2;have HBp:=q8 hb;have hzp:=hb.size;have eO:=hea.cO.2;have zO:=q9 eO;have hll:r'.length<=10:=hfC.n10;have hkl:k<=r'.length:=(by omega);clear hqH hqI hfC hF hT hea hb hrl2
    by_cases hlt:k<r'.length
    rotate_left
    ·have hke:k=r'.length:=(by omega);have HKe:=q8 hke;subst hke
     go_wp2_with fail
     go_roundg (2*Z7 r'+(if a=true then 1 else 0))
     case measure=>
      cases a with
      | true=>have:=HT2.out rfl;simp;omega
      | false=>have h:=(HF2.out rfl).1;rw[h];simp
     case rel=>
      refine⟨y',r',S3,a,rfl,rfl,hfP.out,hmW.out,hbQ.out,by rw[hjO.out];exact HRl.out,fun h=>?_,HOp.out,HBp.out⟩;obtain⟨h1,h2⟩:=HF2.out h;subst h1;exact YN fun j hj=>h2 j hj hj
    have hlk:k<r.length:=(by have:=hjO.out;omega);obtain⟨f,hf⟩:=nZ (r'[k]);obtain⟨n,m,hn,hm,hnm,h6,h1k,hb1,haD⟩:=hbQ.out.fn hlt;obtain⟨K,hK⟩:=nZ ((List.range n).filter fun p:Nat=>tkF p f);obtain⟨T,hT⟩:=nZ ((List.range n).filter fun a:Nat=>!tkF a f);obtain⟨qb,cb,TB,hRf,hBq,hTS,hTg,hSg,hi1,hi2,hput⟩:=kx HOp.out.fn hlt;have htn:=hbQ.out.turned hlt hn (gL (K++T));rw[←hf]at hn hm hb1 haD hRf hBq hi1 hi2 hput htn;have e0:wp.cell? (J g (k*4))=some (.string f.name):=hRf.at1 (j:=0) bO;have e1:wp.cell? (J g (k*4+1))=some (Z f.params):=hRf.at1 (j:=1) bO;have e2:wp.cell? (J g (k*4+2))=some (Z f.regs):=hRf.at1 (j:=2) bO;have e3:wp.cell? (J g (k*4+3))=some (.slice qb f.blocks.length cb):=hRf.at1 (j:=3) bO;have zg:=q9 e0;have hbd:f.blocks.length*96<=140737488351232:=hBq.bd;have hRd:=BlkO.reads hBq.sl;have huo:=q8 (stay_any f n qb cb wp hn h6 hbd hRd);have hke:=fun W h1 h2 h3=>Ve f n m (fun p:Nat=>tkF p f) qb cb (wp.heap.size+1) TB W hn hm hnm h6 h1k h1 hbd haD h2 h3;rw[←hK,←hT]at hke;have HKe:=q8 hke
    have hkt:K6 r'[k]=K/\Jj r'[k]=T:=by
     unfold K6 Jj;rw[←hf,hn,hK,hT];exact⟨rfl,rfl⟩
    have hperm:Perm (K++T) n:=(by rw[hK,hT];exact Qf _ _);have HKt:=q8 (zh hkt hperm);have HTi:Hid (∀i,TB i->i<wp.heap.size):=q8 hBq.sl.inb;have hiQ:¬ TB (wp.heap.size+1):=fun h=>by have:=HTi.out _ h;omega
    have HRf:=q8 hRf;have HBq:=q8 hBq;have HTS:=q8 hTS;have HTg:=q8 hTg;have HSg:=q8 hSg;have haA:=q8 hput;have HTn:=q8 htn;have HFe:=q8 hf;have HI:=q8 (zh hi1 hi2);have HFn:=q8 hn;have HKd:=q8 (zh hK hT);have k0:(0:Int)<=(k:Int):=(by omega);have k1:(k:Int)<r'.length:=(by omega);clear hf hRf hBq hTS hTg hSg hput htn hi1 hi2 haD hRd hm hn hb1 hke hkt hperm hK hT
    go_wp2_with fail
    refine huo.out.mono ?_;rintro e wa ⟨⟨rfl,hrow⟩,hba⟩;have g0:=(hba.cell (p:=(J g (k*4))) zg).trans e0;have g1:=(hba.cell (p:=(J g (k*4+1))) zg).trans e1;have g2:=(hba.cell (p:=(J g (k*4+2))) zg).trans e2;have g3:=(hba.cell (p:=(J g (k*4+3))) zg).trans e3;have gO:=(hba.cell (p:=(J O 1)) zO).trans eO;have gz:=q9 g0;have gzO:=q9 gO;have haZ:=q8 hrow;have HBa:=q8 hba;have HKc:=q8 (HKe.out wa (HBq.out.sl.below qM hba) hrow hiQ);clear hrow hba e0 e1 e2 e3 eO zO
    go_wp2_with fail
    refine HKc.out.mono ?_;rintro e wb ⟨rfl,hSb,hKb⟩;have hgb:=(hKb.block g gz HTg.out).trans (HBa.out.block g zg);have hgH:=HRf.out.other1 hgb;have hfD:Kept TB wp wb:=(Kept.of_below HBa.out).trans hKb fun _ _ h=>h;have hSF:=haA.out wb (toF (gL (K++T)) f) hgH hfD.size (fun i h1 h2 _=>hfD.block i (HOp.out.fn.inb i h1) h2) rfl rfl HI.out.1 ⟨hSb,by rw[vh];exact hbd⟩;have hOb:OutC (w.heap.size+1+1) O g c p1 c1 gl (r'.set k (toF (gL (K++T)) f)) S1 S3 wb:=HOp.out.put bO bV (hfD.mono fun i _ h=>HTS.out i h) hSF fun _ h=>.inl h;have hBb:Below (w.heap.size+1+1) W2 wb:=HBp.out.trans ((hfD.mono fun i _ h=>HTS.out i h).below bO fun i h=>(HOp.out.l2 i h).1);have hdu:=haZ.out.of_block (hKb.block _ haZ.out.lt hiQ);have b1:wb.cell? (J g (k*4+1))=some (Z n):=(by rw[←HFn.out];exact hgH.at1 (j:=1) bO);have bO9:wb.cell? (J O 1)=some (.slice (some (J g 0)) r'.length c):=(by have:=hOb.cO.2;rwa [List.length_set]at this);have bO0:=hOb.cO.1;have bz:=q9 b1;have bzO:=q9 bO9;have HSF:=q8 hSF;have HOb:=q8 hOb;have HBb:=q8 hBb;have hfE:=q8 hdu;have hzb:=hfD.size;have hwJ:=q8 hfD;clear hSb hKb hgb hgH hfD hSF hOb hBb hdu g0 g1 g2 g3 gO gz gzO
    by_cases hKn:K.length<n
    rotate_left
    ·have hKe:K.length=n:=by
      have:=HKt.out.2.len;rw[yN]at this;omega
     have hd:decide ((K.length:Int)<n)=false:=decide_eq_false bO;have htr:=toF_range (f:=f) (n:=n) (st:=fun p:Nat=>tkF p f) (by rw[←HKd.out.1];exact hKe);rw[←HKd.out.1,←HKd.out.2]at htr;have hxe:r'.set k (toF (gL (K++T)) f)=r':=by rw[htr.1,HFe.out,List.set_getElem_self]
     have hT0:T=[]:=by
      have:=HKt.out.2.len;rw[yN]at this;exact List.eq_nil_of_length_eq_zero bO
     have hOn:=HOb.out;rw[hxe]at hOn;have HOn:=q8 hOn;have HT0:=q8 hT0;clear hKe htr hxe hT0 hOn
     go_wp2_with fail
     go_roundg (r.length - (k+1))
     case measure=>omega
     case rel=>
      refine⟨k+1,y',r',S3,a,by omega,rfl,by go_num,rfl,hfP.out,hmW.out,hbQ.out,hjO.out,fun h=>?_,HT2.out,HOn.out,HBb.out⟩;obtain⟨h1,h2⟩:=HF2.out h;refine⟨h1,fun j hj hjk=>?_⟩
      by_cases e:j=k
      ·subst e;subst h1;rw[HKt.out.1.2];exact HT0.out
      exact h2 j hj bO
    have hd:decide ((K.length:Int)<n)=true:=decide_eq_true bO;obtain⟨xs1,hx1⟩:=nZ (r'.set k (toF (gL (K++T)) f));have hl1:xs1.length=r'.length:=(by rw[hx1];simp);have hca:=Xy xs1 k n g c (wp.heap.size+1) (fun p:Nat=>tkF p f) p1 gl.length c1 S3 wb (by rw[hl1,hx1];exact HSF.out) hfE.out (fun h=>by have:=HOp.out.fn.inb _ h;omega) (by rw[hl1];exact hll) (by rw[hx1];exact HTn.out.1) (by rw[hx1];exact HTn.out.2.1) (by rw[hx1];exact HTn.out.2.2) h6;rw[hl1,←HKd.out.1]at hca;have HCa:=q8 hca;have HX1:=q8 hx1;have HL1:=q8 hl1;clear hx1 hl1 hca
    go_wp2_with fail
    refine HCa.out.mono ?_;rintro e wc ⟨rfl,S4,hSc,hS4,hKc⟩;have hOc:OutC (w.heap.size+1+1) O g c p1 c1 gl (xs1.map (pickC k K)) S1 S4 wc:=HOb.out.put bO (by rw[yT,List.length_set];exact HL1.out) hKc (by rw[List.length_set];exact hSc) hS4;have hBc:Below (w.heap.size+1+1) W2 wc:=HBb.out.trans (hKc.below (by have:=HBb.out.size;omega) fun i h=>(HOb.out.l2 i h).1);have hlc:k<(xs1.map (pickC k K)).length:=(by rw[yT,HL1.out];exact hlt);obtain⟨qc,cc,TC,hRc,hiR,hiS,hiT,hiU,hmX,hmY,hdx⟩:=kx hOc.fn hlc
    have hxk:(xs1.map (pickC k K))[k]=pickC k K (toF (gL (K++T)) f):=by
     rw[xE];simp only[HX1.out,List.getElem_set_self]
    have c1':wc.cell? (J g (k*4+1))=some (Z (xs1.map (pickC k K))[k].params):=hRc.at1 (j:=1) bO;have cO:wc.cell? (J O 1)=some (.slice (some (J g 0)) r'.length c):=(by have:=hOc.cO.2;rwa [yT,HL1.out]at this);have cz:=q9 c1';have czO:=q9 cO;have cfr:=hRc.free1;have hlen:(xs1.map (pickC k K)).length=r'.length:=(by rw[yT,HL1.out]);have HOc:=q8 hOc;have HBc:=q8 hBc;have HRc:=q8 hRc;have hiV:=q8 hiR;have hfF:=q8 hdx;have HXk:=q8 hxk;have hfG:=q8 (zh hiS (zh hiU hiT));have HLen:=q8 hlen;have hzc:=hKc.size;clear hSc hS4 hKc hOc hBc hRc hiR hiS hiT hiU hmX hmY hdx hxk hlen bO9 bO0 b1 bz bzO
    go_wp2_with fail
    have hRd:=(RowW.start HRc.out).set (j:=1) (v:=Z (K.length:Nat)) rfl bO;have hSd:=hfF.out (wc.setCell (J g (k*4+1)) (Z (K.length:Nat))) { (xs1.map (pickC k K))[k]with params:=(K.length:Nat) } hRd.row hRd.kept.size (fun i h1 h2 h3=>hRd.kept.block i (HOc.out.fn.inb i h1) h3) rfl rfl (by show I64 ((K.length:Nat):Int);unfold I64;omega) ⟨hiV.out.sl.kept qM hRd.kept (fun i e h=>hfG.out.2.2 (by(have e:i=g:=e);exact e ▸ h)),hiV.out.bd⟩
    have heq:(xs1.map (pickC k K)).set k { (xs1.map (pickC k K))[k]with params:=(K.length:Nat) }=zS k K T r':=by
     rw[HXk.out,HX1.out,HKd.out.1,HKd.out.2,HFe.out];exact turn_eq hlt
    rw[heq]at hSd;have hOd:OutC (w.heap.size+1+1) O g c p1 c1 gl (zS k K T r') S1 S4 (wc.setCell (J g (k*4+1)) (Z (K.length:Nat))):=HOc.out.put bO (by rw[qP,HLen.out]) (hRd.kept.mono fun i _ e=>by(have e:i=g:=e);exact e ▸ hfG.out.2.1) hSd fun _ h=>.inl h;have hBd:Below (w.heap.size+1+1) W2 (wc.setCell (J g (k*4+1)) (Z (K.length:Nat))):=HBc.out.trans (hRd.kept.below (by have:=HBc.out.size;omega) fun i e=>by(have e:i=g:=e);exact e ▸ (HOc.out.l2 g hfG.out.2.1).1);obtain⟨y2,hy2,hy3⟩:=ref_one hmW.out (hfP.out.good hfv.out.good) hlt;rw[HKt.out.1.1,HKt.out.1.2]at hy3;have hps:Z7 (zS k K T r')<Z7 r':=psum_pick hlt (by rw[←HFe.out];exact HFn.out) hKn;have HOd:=q8 hOd;have HBd:=q8 hBd;have HY:=q8 (zh (hfP.out.trans hy2) hy3);have HPs:=q8 hps;clear hRd hSd heq hOd hBd hy2 hy3 hps cO c1' cz czO cfr
    go_roundg (r.length - (k+1))
    case measure=>omega
    case rel=>
     refine⟨k+1,y2,zS k K T r',S4,true,by omega,rfl,by go_num,rfl,HY.out.1,HY.out.2,hbQ.out.pick hlt (by rw[←HFe.out];exact HFn.out) HKt.out.2,by rw[qP];exact hjO.out,(fun h=>by cases h),fun _=>?_,HOd.out,HBd.out⟩;have:=HPs.out;cases a with
     | true=>have:=HT2.out rfl;omega
     | false=>
      have h:=(HF2.out rfl).1;rw[h]at this ⊢;exact this
  have heb:Taken r:=HTk.out bV;have huq:=q8 heb;have hlr:r.length<=10:=HFi.out.n10;clear heb
  go_wp2_with fail
  go_loopg [8] r.length (fun q s wr=>∃(k:Nat) (xs:List FunL) (S2:Blks),k<=r.length/\q=r.length - k/\s=Z k/\TurnsR r k xs/\Fit k xs/\xs.length=r.length/\OutC (w.heap.size+1+1) O g c p1 c1 gl xs S1 S2 wr/\Below (w.heap.size+1+1) W2 wr)
  case atStart=>exact⟨0,r,S2,by omega,rfl,rfl,.start,HFi.out,rfl,HOo.out,HBo.out⟩
  case round=>
   obtain⟨wp,hwp⟩:=nZ wr;subst hwp;obtain⟨k,xs,S3,hk,rfl,rfl,hTu,hfC,hxl,hea,hb⟩:=hrel;have HTu:=q8 hTu;have hbQ:=q8 hfC;have HXl:=q8 hxl;have HOp:=q8 hea;have HBp:=q8 hb;have hzp:=hb.size;have eO:=hea.cO.2;have eO0:=hea.cO.1;have zO:=q9 eO;have hll:xs.length<=10:=hfC.n10;have hkl:k<=xs.length:=(by omega);clear hTu hfC hea hb hxl
   by_cases hlt:k<xs.length
   rotate_left
   ·have hke:k=xs.length:=(by omega);subst hke;have hr1:=(HBp.out.block (w.heap.size+1) bO).trans HR2.out;have hr2:=qd hr1;have hr3:=(blk hr1).2 0;have hr4:=(blk hr1).2 1;have hr5:wp.cell? (J (w.heap.size+1) 0)=some (.slice none 0 0):=(blk hr1).1 0;have hr6:wp.cell? (J (w.heap.size+1) 1)=some (.slice none 0 0):=(blk hr1).1 1
    go_wp2_with fail
    obtain⟨WF,hWF⟩:=nZ ((wp.setCell (J (w.heap.size+1) 0) (.slice p1 gl.length c1)).setCell (J (w.heap.size+1) 1) (.slice (some (J g 0)) xs.length c));rw[←hWF]
    have hF1:WF.heap[w.heap.size+1]?=some (.cells #[.slice p1 gl.length c1,.slice (some (J g 0)) xs.length c] 25 (0,0)):=by
     rw[hWF,qj (qj hr1 0 _) 1 _];rfl
    have hKf:Kept (fun i=>i=w.heap.size+1) wp WF:=by
     rw[hWF];exact((Kept.refl (fun i=>i=w.heap.size+1) wp).setCell (p:=(J (w.heap.size+1) 0)) rfl _).setCell (p:=(J (w.heap.size+1) 1)) rfl _
    have hOf:=HOp.out.oth hKf (fun b h e=>by have:=(HOp.out.l1 b h).1;(have e:b=w.heap.size+1:=e);omega) (fun b h e=>by have:=(HOp.out.l2 b h).1;(have e:b=w.heap.size+1:=e);omega) (fun e=>by(have e:O=w.heap.size+1:=e);omega);have hFb:Below w.heap.size w WF:=(heZ.out.trans (HBp.out.mono bO)).trans (hKf.below (by have:=HBp.out.size;omega) fun b e=>by(have e:b=w.heap.size+1:=e);omega);have hGr:SlF WF 3 48 (GloR WF) (.slice p1 gl.length c1) gl:=hOf.glo.read xl bO fun _ _ _ h=>h.read;have hFr:SlF WF 4 56 (FunR WF) (.slice (some (J g 0)) xs.length c) xs:=SlQ.read qK bO ⟨hOf.fn,by unfold reachBytes;omega⟩ fun _ _ _ h=>h.read;have k0:=(blk hF1).1 0;have k1':=(blk hF1).1 1;have hxr:=HXl.out;have hqJ:=HTu.out;clear hWF;obtain⟨nn,hnn⟩:=nZ xs.length;rw[←hnn]at k1' hFr hxr hqJ;have hnr:nn=ts.length:=hxr.trans HRl.out;refine zk (v:=.agg #[.slice p1 gl.length c1,.slice (some (J g 0)) ts.length c]) ?_ rfl ⟨⟨p1,c1,some (J g 0),c,y,r,xs,rfl,⟨HSt.out,HRx.out,huq.out,by rw[←hxr];exact hqJ,by rw[←hnn];exact hnr⟩,hGr,by rw[←hnr];exact hFr⟩,hFb⟩;rw[←hnr];simp[results,Tryz.results12,go_sem,k0,k1']
   obtain⟨n,m,hn,hm,hnm,h6,h1k,hb1,haD⟩:=hbQ.out.fn hlt
   have e1:wp.cell? (J g (k*4+1))=some (Z n):=by
    obtain⟨_,_,_,hRf,_⟩:=kx HOp.out.fn hlt;rw[←hn];exact hRf.at1 (j:=1) bO
   have zg:=q9 e1;have hmk:=run_make_row 74 4 i1 (.bool false) Xv t1 t2 t3 rfl .i64 .i64 n (by rw[t4];omega) bO;have HNm:=q8 (zh hn hm);have huu:=q8 (zh hb1 haD);have k0:(0:Int)<=(k:Int):=(by omega);have k1:(k:Int)<xs.length:=(by omega);clear hn hm hb1 haD
   go_wp2_with fail
   obtain⟨W3,hW3⟩:=nZ (wp.alloc (.cells (madeCells #[.bool false] n) 4));rw[←hW3];have hz3:W3.heap.size=wp.heap.size+1:=(by rw[hW3];simp);have HB3:Hid (Below wp.heap.size wp W3):=q8 (by rw[hW3];exact bZ);have hfH:Hid (W3.rowIs wp.heap.size 4 n (fun _=>.bool false)):=q8 (by rw[hW3];exact World.rowIs_made wp (.bool false) n 4);clear hW3 hmk
   go_loopg [11,12] n (fun q s11 s12 wr=>∃(p:Nat) (hd:List InsL) (pv:Option Addr) (vc:Nat) (Sv:Blks),p<=n/\q=n - p/\s12=Z p/\s11 = .slice pv hd.length vc/\(SlO 51 8 InsO wr (.slice pv hd.length vc) hd Sv/\(∀i,Sv i->wp.heap.size<=i)/\¬ Sv wp.heap.size)/\Hid (hd=(j7 k xs p).map fun o:Nat=>j8 0 (K7 k xs o))/\wr.rowIs wp.heap.size 4 n (fun q=>.bool (decide (q<p)&&(jy k q xs).isNone))/\Below wp.heap.size wp wr)
   case atStart=>exact⟨0,[],none,0,fun _=>False,by omega,rfl,rfl,rfl,⟨SlO.nil _ _ _ _ (fun _ h=>h.elim),fun _ h=>h.elim,fun h=>h⟩,q8 rfl,hfH.out.congr fun q _=>by simp,HB3.out⟩
   case round=>
    obtain⟨wq,hwq⟩:=nZ wr;subst hwq;obtain⟨p,hd,pv,vc,Sv,hp,rfl,rfl,rfl,hHd,HHe,hrow,hb⟩:=hrel;have HHd:=q8 hHd;have haZ:=q8 hrow;have HBq:=q8 hb;have hzq:=hb.size;have HOq:=q8 (HOp.out.below bO hb);have gO:=(hb.cell (p:=(J O 1)) zO).trans eO;have gO0:=(hb.cell (p:=(J O 0)) zO).trans eO0;have gzO:=q9 gO;have hrz:=hrow.lt
    have hgl:(j7 k xs p).length<=p:=by
     have:=(K9 k p xs).len;rw[yN]at this;omega
    have hhl:hd.length<=p:=(by rw[HHe.out,yT];exact hgl);have HHl:=q8 hhl;clear hHd hrow hb hgl hhl
    by_cases hlp:p<n
    ·have hRd:SliceAt wq 4 (FunR wq) (some (J g 0)) xs:=by
      obtain⟨p',c',e,_,_,h2⟩:=HOq.out.fn.read (R':=FunR wq) qK bO fun _ _ _ h=>h.read;cases e;exact h2
     have hal:=Ka xs k p p1 (some (J g 0)) gl.length c1 c wq hll ⟨hbQ.out.blk,hbQ.out.l400⟩ (fun f hf b hb x hx h1 h2=>by
      have:=hbQ.out.good.call.nat hlt HNm.out.1 f hf b hb x hx h1 h2
      omega) hRd
     have hc0:=haZ.out.cell hlp;have hf0:=haZ.out.frozen p;have p0:(0:Int)<=(p:Int):=(by omega);have p1':(p:Int)<n:=(by omega);cases hA:jy k p xs with
     | none=>
      rw[hA]at hal;simp only[Option.getD,Option.isSome]at hal;have HAl:=q8 hal;have HKn:=q8 ((kept_next (k:=k) (m:=p) (ys:=xs)).1 hA);have HA:=q8 hA;clear hal hA hRd
      go_wp2_with (go_at_call 37;refine HAl.out.mono ?_;rintro e wa ⟨rfl,hba⟩;have hc2:=(hba.cell (p:=(J wp.heap.size p)) hrz).trans hc0;have hf2:=(hba.frozen (p:=(J wp.heap.size p)) hrz).trans hf0;have HBa:=q8 hba;clear hba)
      go_roundg (n - (p+1))
      case measure=>omega
      case rel=>
       refine⟨p+1,hd,pv,vc,Sv,by omega,rfl,by go_num,rfl,⟨(HHd.out.1.below qT HBa.out).kept qT ((Kept.refl (fun i=>i=wp.heap.size) wa).setCell (p:=(J wp.heap.size p)) rfl _) (fun i e h=>HHd.out.2.2 (by(have e:i=wp.heap.size:=e);exact e ▸ h)),HHd.out.2.1,HHd.out.2.2⟩,q8 (by rw[HKn.out.2];exact HHe.out),((jE haZ.out HBa.out).set p _).congr fun q _=>?_,(HBq.out.trans (HBa.out.mono HBq.out.size)).setCell (zK _) _⟩
       by_cases e:q=p
       ·subst e;simp[HA.out]
       have:decide (q<p+1)=decide (q<p):=(by rw[decide_eq_decide];omega);simp[e,this]
     | some v=>
      rw[hA]at hal;simp only[Option.getD,Option.isSome]at hal;have HAl:=q8 hal;have HKn:=q8 ((kept_next (k:=k) (m:=p) (ys:=xs)).2 hA)
      have hv64:I64 v:=alw64 HOq.out.fn (fun f hf b hb x hx h1 h2=>by
       have:=hbQ.out.good.call.nat hlt HNm.out.1 f hf b hb x hx h1 h2
       omega) hA
      have hqK:K7 k xs p=v:=(by unfold K7;rw[hA];rfl);have HV:=q8 (zh hv64 hqK);have HA:=q8 hA;have HBd:=q8 (ins_bd HHl.out (show p<=6 by omega));clear hal hA hRd hv64 hqK
      go_wp2_with (first|(go_at_call 37;refine HAl.out.mono ?_;rintro e wa ⟨rfl,hba⟩;have hc2:=(hba.cell (p:=(J wp.heap.size p)) hrz).trans hc0;have hf2:=(hba.frozen (p:=(J wp.heap.size p)) hrz).trans hf0;have HBa:=q8 hba;have HHa:=q8 ((HHd.out.1.below qT hba).kept qT ((Kept.refl (fun i=>i=wp.heap.size) wa).setCell (p:=(J wp.heap.size p)) rfl (.bool false)) (fun i e h=>HHd.out.2.2 (by(have e:i=wp.heap.size:=e);exact e ▸ h)));clear hba)|(at_builtin;refine qH _ rfl _ _ 42 rfl 51 iI _ 8 80 Tryz.underlying42 l1 l2 l3 l4 rfl (by decide) qT rfl (HHa.out.below qT ((zI _ (wa.setCell (J wp.heap.size p) (.bool false))).alloc (zK _) _)) ⟨(wa.setCell (J wp.heap.size p) (.bool false)).heap.size,0,none⟩ 1 [Z 1,Z 0,.bool false,Z v,.bool false,Z 0,Z 0,.slice none 0 0] (j8 0 v) ?hx rfl ?hn ?ho (T:=fun _=>False) ?hy ?ha ?ht ?hm ?hb ?_))
      case hx=>simp<;>rfl
      case hn=>exact zW _ _ _ bV
      case ho=>intro u hu;simp only[yC,yG,yl]at hu;rcases hu with rfl|rfl|rfl|rfl|rfl|rfl|rfl|rfl<;>rfl
      case hy=>exact⟨_,rfl,by unfold I64 j8;dsimp only;omega,by unfold I64 j8;dsimp only;omega,HV.out.1,by unfold I64 j8;dsimp only;omega,by unfold I64 j8;dsimp only;omega,⟨SlO.nil _ _ _ _ (fun _ h=>h.elim),by show 0*16<=_;omega⟩⟩
      case ha=>exact fun k h1 h2=>h2
      case ht=>exact fun k h=>h.elim
      case hm=>exact(HBd.out).1
      case hb=>exact(HBd.out).2
      intro v' w' hsn;obtain⟨S',hO3,hsub,hK3⟩:=hsn;obtain⟨pv2,vc2,ev,_⟩:=hO3.val;subst ev;have hgI:(wa.setCell (J wp.heap.size p) (.bool false)).heap.size=wa.heap.size:=by simp[World.setCell]
      have hiW:=((jE haZ.out HBa.out).set p (.bool false)).congr (fun q _=>(by
       by_cases e:q=p
       ·subst e;simp[HA.out]
       have:decide (q<p+1)=decide (q<p):=by rw[decide_eq_decide];omega
       simp[e,this]:(if q=p then Value.bool false else .bool (decide (q<p)&&(jy k q xs).isNone)) = .bool (decide (q<p+1)&&(jy k q xs).isNone)))
      have hrow2:=jE hiW ((zI _ (wa.setCell (J wp.heap.size p) (.bool false))).alloc (zK _) (.cells #[Z 1,Z 0,.bool false,Z v,.bool false,Z 0,Z 0,.slice none 0 0] 51));have hrow3:=hrow2.of_block (hK3.block wp.heap.size (by simp[hgI];have:=HBa.out.size;omega) HHd.out.2.2);have hbw:Below wp.heap.size wp w':=((HBq.out.trans (HBa.out.mono HBq.out.size)).setCell (p:=(J wp.heap.size p)) (zK _) (.bool false)).trans ((((zI _ (wa.setCell (J wp.heap.size p) (.bool false))).alloc (zK _) (.cells #[Z 1,Z 0,.bool false,Z v,.bool false,Z 0,Z 0,.slice none 0 0] 51)).mono (by rw[hgI];have:=HBa.out.size;omega)).trans (hK3.below (by simp[hgI];have:=HBa.out.size;omega) HHd.out.2.1))
      have hrel:(SlO 51 8 InsO w' (.slice pv2 (hd++[j8 0 v]).length vc2) (hd++[j8 0 v]) S'/\(∀i,S' i->wp.heap.size<=i)/\¬ S' wp.heap.size):=by
       refine⟨hO3,fun i hi=>?_,fun hi=>?_⟩
       ·rcases hsub i hi with h|h|h
        ·exact HHd.out.2.1 i h
        ·exact h.elim
        simp[hgI]at h;have:=HBa.out.size;omega
       rcases hsub _ hi with h|h|h
       ·exact HHd.out.2.2 h
       ·exact h.elim
       simp[hgI]at h;have:=HBa.out.size;omega
      have ha7:=q8 hrel;have hfH:=q8 hrow3;have HBw:=q8 hbw;clear hO3 hsub hK3 hgI hiW hrow2 hrow3 hbw hrel hc2 hf2
      go_wp2_with fail
      go_roundg (n - (p+1))
      case measure=>omega
      case rel=>
       exact⟨p+1,hd++[j8 0 v],pv2,vc2,S',by omega,rfl,by go_num,rfl,ha7.out,q8 (by rw[HKn.out.2,yW,←HHe.out,yS,HV.out.2];rfl),hfH.out,HBw.out⟩
    obtain rfl:p=n:=(by omega);obtain⟨f,hf⟩:=nZ (xs[k]);obtain⟨K,hK⟩:=nZ (j9 k xs p);obtain⟨T,hT⟩:=nZ (j7 k xs p);have hperm:Perm (K++T) p:=(by rw[hK,hT];exact K9 _ _ _);have hst:=haZ.out.congr (fun q hq=>(by simp[hq]:Value.bool (decide (q<p)&&(jy k q xs).isNone) = .bool ((jy k q xs).isNone)));obtain⟨hn,hm⟩:=HNm.out;obtain⟨hb1,haD⟩:=huu.out;obtain⟨qb,cb,TB,hRf,hBq,hTS,hTg,hSg,hi1,hi2,hput⟩:=kx HOq.out.fn hlt;have htn:=hbQ.out.turned hlt hn (gL (K++T));rw[←hf]at hn hm hb1 haD hRf hBq hi1 hi2 hput htn;have e0:wq.cell? (J g (k*4))=some (.string f.name):=hRf.at1 (j:=0) bO;have e1:wq.cell? (J g (k*4+1))=some (Z f.params):=hRf.at1 (j:=1) bO;have e2:wq.cell? (J g (k*4+2))=some (Z f.regs):=hRf.at1 (j:=2) bO;have e3:wq.cell? (J g (k*4+3))=some (.slice qb f.blocks.length cb):=hRf.at1 (j:=3) bO;have zgq:=q9 e0;have hbd:f.blocks.length*96<=140737488351232:=hBq.bd;have hTi:∀i,TB i->i<wp.heap.size:=fun i hi=>HOp.out.fn.inb i (hTS i hi);have hiQ:¬ TB wp.heap.size:=fun h=>by have:=hTi _ h;omega
    have hke:Calls Tryz.prog 35 #[.agg #[.string f.name,Z f.params,Z f.regs,.slice qb f.blocks.length cb],.slice (some (J wp.heap.size 0)) p p] wq fun e w'=>e = .returned (Z (K.length:Nat))/\SlO 49 6 BlkO w' (.slice qb f.blocks.length cb) (f.blocks.map (toB (gL (K++T)))) TB/\Kept TB wq w':=by
     rw[hK,hT];exact Ve f p m (fun q:Nat=>(jy k q xs).isNone) qb cb wp.heap.size TB wq hn hm hnm h6 h1k hBq.sl hbd haD hst hiQ
    have HKc:=q8 hke;have hmZ:=q8 hst;have HRf:=q8 hRf;have hwK:=q8 hBq;have HTS:=q8 hTS;have HTg:=q8 hTg;have HSg:=q8 hSg;have haA:=q8 hput;have HTn:=q8 htn;have HFe:=q8 hf;have HI:=q8 (zh hi1 hi2);have HFn:=q8 hn;have HKd:=q8 (zh hK hT);have HPm:=q8 hperm;clear hf hRf hBq hTS hTg hSg hput htn hi1 hi2 haD hm hn hb1 hke hperm hK hT hst
    go_wp2_with fail
    refine HKc.out.mono ?_;rintro e wb ⟨rfl,hSb,hKb⟩;have hgH:=HRf.out.other1 (hKb.block g zgq HTg.out);have hSF:=haA.out wb (toF (gL (K++T)) f) hgH hKb.size (fun i h1 h2 _=>hKb.block i (HOq.out.fn.inb i h1) h2) rfl rfl HI.out.1 ⟨hSb,by rw[vh];exact hbd⟩;have hKS:Kept S3 wq wb:=hKb.mono fun i _ h=>HTS.out i h;have hOb:OutC (w.heap.size+1+1) O g c p1 c1 gl (xs.set k (toF (gL (K++T)) f)) S1 S3 wb:=HOq.out.put bO bV hKS hSF fun _ h=>.inl h;have hBb:Below (w.heap.size+1+1) W2 wb:=(HBp.out.trans (HBq.out.mono bO)).trans (hKS.below bO fun i h=>(HOq.out.l2 i h).1);have hdu:=hmZ.out.of_block (hKb.block _ hrz hiQ);have hHb:=HHd.out.1.kept qT hKb fun i h1 h2=>by have:=hTi i h1;have:=HHd.out.2.1 i h2;omega
    have bO9:wb.cell? (J O 1)=some (.slice (some (J g 0)) xs.length c):=(by have:=hOb.cO.2;rwa [List.length_set]at this);have bO0:=hOb.cO.1;have bzO:=q9 bO9;have HSF:=q8 hSF;have HOb:=q8 hOb;have HBb:=q8 hBb;have hfE:=q8 hdu;have HHb:=q8 hHb;have hzb:=hKb.size;clear hSb hKb hgH hKS hSF hOb hBb hdu hHb e0 e1 e2 e3 zgq gO gO0 gzO;obtain⟨xs1,hx1⟩:=nZ (xs.set k (toF (gL (K++T)) f));have hl1:xs1.length=xs.length:=by rw[hx1];simp
    have hca:Calls Tryz.prog 36 #[.agg #[.slice p1 gl.length c1,.slice (some (J g 0)) xs.length c],Z k,.slice (some (J wp.heap.size 0)) p p] wb fun e w'=>e = .returned (.tuple #[])/\∃S',SlO 38 4 FunO w' (.slice (some (J g 0)) xs.length c) (xs1.map (pickC k K)) S'/\(∀i,S' i->S3 i\/wb.heap.size<=i)/\Kept S3 wb w':=by
     have:=Xy xs1 k p g c wp.heap.size (fun q:Nat=>(jy k q xs).isNone) p1 gl.length c1 S3 wb (by rw[hl1,hx1];exact HSF.out) hfE.out (fun h=>by have:=HOp.out.fn.inb _ h;omega) (by rw[hl1];exact hll) (by rw[hx1];exact HTn.out.1) (by rw[hx1];exact HTn.out.2.1) (by rw[hx1];exact HTn.out.2.2) h6;rw[hl1]at this;rw[HKd.out.1];exact this
    have HCa:=q8 hca;have HX1:=q8 hx1;have HL1:=q8 hl1;clear hx1 hl1 hca
    go_wp2_with fail
    refine HCa.out.mono ?_;rintro e wc ⟨rfl,S4,hSc,hS4,hKc⟩;have hOc:OutC (w.heap.size+1+1) O g c p1 c1 gl (xs1.map (pickC k K)) S1 S4 wc:=HOb.out.put bO (by rw[yT,List.length_set];exact HL1.out) hKc (by rw[List.length_set];exact hSc) hS4;have hBc:Below (w.heap.size+1+1) W2 wc:=HBb.out.trans (hKc.below (by have:=HBb.out.size;omega) fun i h=>(HOb.out.l2 i h).1);have hlc:k<(xs1.map (pickC k K)).length:=(by rw[yT,HL1.out];exact hlt);obtain⟨qc,cc,TC,hRc,hiR,hiS,hiT,hiU,hmX,hmY,hdx⟩:=kx hOc.fn hlc
    have hxk:(xs1.map (pickC k K))[k]=pickC k K (toF (gL (K++T)) f):=by
     rw[xE];simp only[HX1.out,List.getElem_set_self]
    have c1':wc.cell? (J g (k*4+1))=some (Z (xs1.map (pickC k K))[k].params):=hRc.at1 (j:=1) bO;have cO:wc.cell? (J O 1)=some (.slice (some (J g 0)) xs.length c):=(by have:=hOc.cO.2;rwa [yT,HL1.out]at this);have cz:=q9 c1';have czO:=q9 cO;have cfr:=hRc.free1;have hlen:(xs1.map (pickC k K)).length=xs.length:=(by rw[yT,HL1.out]);have hn5:∀i,S3 i->¬ Sv i:=fun i h1 h2=>by have:=HOp.out.fn.inb i h1;have:=HHd.out.2.1 i h2;omega
    have hHc:=HHb.out.kept qT hKc hn5;have HHc:=q8 hHc;have hqL:=q8 hn5;have HOc:=q8 hOc;have HBc:=q8 hBc;have HRc:=q8 hRc;have hiV:=q8 hiR;have hfF:=q8 hdx;have HXk:=q8 hxk;have hfG:=q8 (zh hiS (zh hiU hiT));have HLen:=q8 hlen;have HS4:=q8 hS4;have hzc:=hKc.size;clear hSc hS4 hKc hOc hBc hRc hiR hiS hiT hiU hmX hmY hdx hxk hlen bO9 bO0 bzO hn5 hHc;have hRd:=(RowW.start HRc.out).set (j:=1) (v:=Z (K.length:Nat)) rfl bO;obtain⟨wd,hwd⟩:=nZ (wc.setCell (J g (k*4+1)) (Z (K.length:Nat)));rw[←hwd]at hRd;have HWd:=q8 hwd;clear hwd;have hKp:K.length<=p:=(by have:=HPm.out.len;rw[yN]at this;omega);have hSd:=hfF.out wd { (xs1.map (pickC k K))[k]with params:=(K.length:Nat) } hRd.row hRd.kept.size (fun i h1 h2 h3=>hRd.kept.block i (HOc.out.fn.inb i h1) h3) rfl rfl (by show I64 ((K.length:Nat):Int);unfold I64;omega) ⟨hiV.out.sl.kept qM hRd.kept (fun i e h=>hfG.out.2.2 (by(have e:i=g:=e);exact e ▸ h)),hiV.out.bd⟩
    have heq:(xs1.map (pickC k K)).set k { (xs1.map (pickC k K))[k]with params:=(K.length:Nat) }=zS k K T xs:=by
     rw[HXk.out,HX1.out,HKd.out.1,HKd.out.2,HFe.out];exact turn_eq (n:=p) (st:=fun q:Nat=>(jy k q xs).isNone) hlt
    rw[heq]at hSd;have hOd:OutC (w.heap.size+1+1) O g c p1 c1 gl (zS k K T xs) S1 S4 wd:=HOc.out.put bO (by rw[qP,HLen.out]) (hRd.kept.mono fun i _ e=>by(have e:i=g:=e);exact e ▸ hfG.out.2.1) hSd fun _ h=>.inl h;have hBd:Below (w.heap.size+1+1) W2 wd:=HBc.out.trans (hRd.kept.below (by have:=HBc.out.size;omega) fun i e=>by(have e:i=g:=e);exact e ▸ (HOc.out.l2 g hfG.out.2.1).1);have hqM:=HHc.out.kept qT hRd.kept fun i e h=>hqL.out i (by(have e:i=g:=e);rw[e];exact HSg.out) h;have HOd:=q8 hOd;have HBd:=q8 hBd;have huw:=q8 hqM;have hzd:=hRd.kept.size;clear hRd hSd heq hOd hBd hqM
    go_wp2_with fail
    rw[←HWd.out];clear c1' cO cz czO cfr
    go_loopg [16] hd.length (fun q s wr=>∃i:Nat,i<=hd.length/\q=hd.length - i/\s=Z i/\SlO 51 8 InsO wr (.slice pv hd.length vc) (vL i K.length hd) Sv/\Kept Sv wd wr)
    case atStart=>exact⟨0,by omega,rfl,rfl,by rw[YR];exact huw.out,Kept.refl _ _⟩
    case round=>
     obtain⟨we,hwe⟩:=nZ wr;subst hwe;obtain⟨i,hi,rfl,rfl,hDs,hKs⟩:=hrel;have HDs:=q8 hDs;have HKs:=q8 hKs;have hze:=hKs.size;have hhl:=HHl.out;clear hDs hKs
     by_cases hli:i<hd.length
     ·obtain⟨gh,d,hpv,hcd,hfd,hst⟩:=dst_step HDs.out hli;subst hpv;obtain⟨hs1,hs2⟩:=hst bO;have HDn:=q8 (zh hs1 (HKs.out.trans hs2 fun _ _ h=>h));have zh9:=q9 hcd;have i0:(0:Int)<=(i:Int):=(by omega);have i1':(i:Int)<hd.length:=(by omega);have hKp:=HPm.out.len;rw[yN]at hKp;have hwr:IntKind.i64.wrap ((K.length:Int)+i)=((K.length+i:Nat):Int):=(by rw[xI];omega);clear hst hs1 hs2 hKp
      go_wp2_with fail
      go_roundg (hd.length - (i+1))
      case measure=>omega
      case rel=>exact⟨i+1,by omega,rfl,by go_num,HDn.out.1,HDn.out.2⟩
     obtain rfl:i=hd.length:=by omega
     have hhd:vL hd.length K.length hd=T.map fun o:Nat=>j8 (gL (K++T) o) (K7 k xs o):=by
      have e:hd=T.map fun o:Nat=>j8 0 (K7 k xs o):=(by rw[HHe.out,HKd.out.2]);have e2:hd.length=T.length:=(by rw[e,yT]);rw[e2]
      conv=>lhs;rw[e]
      exact YT HPm.out
     have hux:=q8 hhd;have hgJ:∀b,Sv b->wp.heap.size<=b/\b<wb.heap.size:=fun b hb=>⟨HHd.out.2.1 b hb,HHb.out.inb b hb⟩
     have hn2:∀b,S4 b->¬ Sv b:=fun b h1 h2=>by
      rcases HS4.out b h1 with h3|h3
      ·exact hqL.out b h3 h2
      have:=(hgJ b h2).2;omega
     have hn1:∀b,S1 b->¬ Sv b:=fun b h1 h2=>by
      have:=HOp.out.glo.sl.inb b h1;have:=(hgJ b h2).1;omega
     have hnO:¬ Sv O:=fun h2=>by have:=HOp.out.lt;have:=(hgJ O h2).1;omega
     have hOe:=HOd.out.oth HKs.out hn1 hn2 hnO;have hBe:Below (w.heap.size+1+1) W2 we:=HBd.out.trans (HKs.out.below (by have:=HBd.out.size;omega) fun b h=>by have:=(hgJ b h).1;have:=HBp.out.size;omega);have HOe:=q8 hOe;have HBe:=q8 hBe;have hqN:=q8 hgJ;have HNn:=q8 (zh hn1 hn2);clear hhd hgJ hn1 hn2 hnO hOe hBe;have huy:(zS k K T xs).length=xs.length:=qP ..;have hlt2:k<(zS k K T xs).length:=(by omega);have hFp:=hbQ.out.pick hlt (by rw[←HFe.out];exact HFn.out) HPm.out;have h02:=hFp.good.call.blk _ (zP hlt2);have hqO:=hFp.lst k hlt2 _ (zP h02);rw[zQ bO]at hqO;have HFp:=q8 hFp;obtain⟨bb,cb2,ql,cl,SL,d3,hbb,hgS,hfr,dL,hQ,hSL,hput⟩:=HOe.out.head bO hlt2 h02;have dO:=HOe.out.cO.2;have hgz:g<we.heap.size:=HOe.out.fn.inb _ hgS;have hbz:bb<we.heap.size:=HOe.out.fn.inb _ hbb;rw[huy]at dO;obtain⟨fl,hfl⟩:=nZ ((zS k K T xs)[k].blocks[0].list);obtain⟨nb,hnb⟩:=nZ ((zS k K T xs)[k].blocks.length);rw[←hfl]at hqO dL hQ hput;rw[←hnb]at d3 h02;have HQ:=q8 hQ;have HPt:=q8 hput;have HSL:=q8 (zh hSL (zh hbb hgS));have b0':(0:Int)<nb:=(by omega);have hd0:decide ((hd.length:Int)<hd.length)=false:=decide_eq_false bO;have hqP:¬ Sv O:=fun h2=>by have:=HOp.out.lt;have:=(hqN.out O h2).1;omega
     clear hFp hQ hput hSL hbb hgS hfl hnb
     go_wp2_with fail
     obtain⟨Sp,hSp⟩:∃Sp:World->Prop,Sp=fun w'=>w'.heap[O]?=we.heap[O]?/\w'.heap[g]?=we.heap[g]?/\w'.heap[bb]?=we.heap[bb]?/\we.heap.size<=w'.heap.size:=⟨_,rfl⟩
     have ha6:∀w',Sp w'->w'.cell? (J O 1)=some (.slice (some (J g 0)) xs.length c)/\w'.cell? (J g (k*4+3))=some (.slice (some (J bb 0)) nb cb2)/\w'.cell? (J bb 1)=some (.slice ql fl.length cl)/\w'.frozen? (J bb 1)=false/\bb<w'.heap.size/\g<w'.heap.size/\O<w'.heap.size:=fun w' h=>by
      rw[hSp]at h;obtain⟨s1,s2,s3,s4⟩:=h;have:=HOe.out.lt;exact⟨(zN (a:=(J O 1)) s1).trans dO,(zN (a:=(J g (k*4+3))) s2).trans d3,(zN (a:=(J bb 1)) s3).trans dL,(yB (a:=(J bb 1)) s3).trans (hfr 1),by omega,by omega,by omega⟩
     have hS6:Sp we.drew:=(by rw[hSp];exact⟨rfl,rfl,rfl,zK _⟩);refine qA (S:=Sp) bK 19 ?_
     refine tkZ 0 127 (.pointer (some (J O 1))) rfl rfl hS6 (fun w' h=>by
      obtain⟨h1,h2,h3,h4,h5,h6,h7⟩:=ha6 w' h
      go_simp) ?_
     refine tkZ 1 128 (.slice (some (J g 0)) xs.length c) rfl rfl hS6 (fun w' h=>by
      obtain⟨h1,h2,h3,h4,h5,h6,h7⟩:=ha6 w' h
      go_simp) ?_
     refine tkZ 2 129 (Z k) rfl rfl hS6 (fun w' h=>by
      obtain⟨h1,h2,h3,h4,h5,h6,h7⟩:=ha6 w' h
      go_simp) ?_
     refine tkZ 3 130 (.pointer (some (J g (k*4)))) rfl rfl hS6 (fun w' h=>by
      obtain⟨h1,h2,h3,h4,h5,h6,h7⟩:=ha6 w' h
      go_simp) ?_
     refine tkZ 4 131 (.pointer (some (J g (k*4+3)))) rfl rfl hS6 (fun w' h=>by
      obtain⟨h1,h2,h3,h4,h5,h6,h7⟩:=ha6 w' h
      go_simp) ?_
     refine tkZ 5 132 (.slice (some (J bb 0)) nb cb2) rfl rfl hS6 (fun w' h=>by
      obtain⟨h1,h2,h3,h4,h5,h6,h7⟩:=ha6 w' h
      go_simp) ?_
     refine tkZ 6 133 (.slice pv hd.length vc) rfl rfl hS6 (fun w' h=>by
      obtain⟨h1,h2,h3,h4,h5,h6,h7⟩:=ha6 w' h
      go_simp) ?_
     refine tkZ 7 134 (.pointer (some (J O 1))) rfl rfl hS6 (fun w' h=>by
      obtain⟨h1,h2,h3,h4,h5,h6,h7⟩:=ha6 w' h
      go_simp) ?_
     refine tkZ 8 135 (.slice (some (J g 0)) xs.length c) rfl rfl hS6 (fun w' h=>by
      obtain⟨h1,h2,h3,h4,h5,h6,h7⟩:=ha6 w' h
      go_simp) ?_
     refine tkZ 9 136 (Z k) rfl rfl hS6 (fun w' h=>by
      obtain⟨h1,h2,h3,h4,h5,h6,h7⟩:=ha6 w' h
      go_simp) ?_
     refine tkZ 10 137 (.pointer (some (J g (k*4)))) rfl rfl hS6 (fun w' h=>by
      obtain⟨h1,h2,h3,h4,h5,h6,h7⟩:=ha6 w' h
      go_simp) ?_
     refine tkZ 11 138 (.pointer (some (J g (k*4+3)))) rfl rfl hS6 (fun w' h=>by
      obtain⟨h1,h2,h3,h4,h5,h6,h7⟩:=ha6 w' h
      go_simp) ?_
     refine tkZ 12 139 (.slice (some (J bb 0)) nb cb2) rfl rfl hS6 (fun w' h=>by
      obtain⟨h1,h2,h3,h4,h5,h6,h7⟩:=ha6 w' h
      go_simp) ?_
     refine tkZ 13 140 (.pointer (some (J bb 0))) rfl rfl hS6 (fun w' h=>by
      obtain⟨h1,h2,h3,h4,h5,h6,h7⟩:=ha6 w' h
      go_simp) ?_
     refine tkZ 14 141 (.pointer (some (J bb 1))) rfl rfl hS6 (fun w' h=>by
      obtain⟨h1,h2,h3,h4,h5,h6,h7⟩:=ha6 w' h
      go_simp) ?_
     refine tkZ 15 142 (.slice ql fl.length cl) rfl rfl hS6 (fun w' h=>by
      obtain⟨h1,h2,h3,h4,h5,h6,h7⟩:=ha6 w' h
      go_simp) ?_
     obtain⟨v',w8,hr,Lb,hJ1,hJ2,hJ3⟩:=km (P:=Tryz.prog) we.drew 42 42 51 iI _ 8 80 Tryz.underlying42 l1 l2 l3 l4 rfl (by decide) qT (HDs.out.below qT ((zI _ we).drew)) (HQ.out.below qT ((zI _ we).drew)) (fun b h1 h2=>HNn.out.2 b (HSL.out.1 b h2) h1) (by rw[vM];unfold maxLen;omega) (by rw[vM];omega);rw[hux.out]at hJ1
     obtain⟨pv',cv',nl,hv'⟩:∃pv' cv' nl,v' = .slice pv' nl cv':=by
      obtain⟨a,b,e,_⟩:=hJ1.val;exact⟨a,b,_,e⟩
     have hS8:Sp w8:=by
      rw[hSp];exact⟨hJ3.block _ HOe.out.lt hqP,hJ3.block _ hgz (HNn.out.2 _ HSL.out.2.2),hJ3.block _ hbz (HNn.out.2 _ HSL.out.2.1),hJ3.size⟩
     refine qm (i:=16) bK (qC 143 v' w8 rfl rfl rfl (Qc rfl (by go_simp) (by go_simp) hr) hS8 ?_);refine qm (i:=17) bK (qC 144 (.pointer (some (J bb 0))) w8 rfl rfl rfl (by go_simp) hS8 ?_);refine qm (i:=18) bK (qC 145 (.pointer (some (J bb 1))) w8 rfl rfl rfl (by go_simp) hS8 ?_);obtain⟨s1,s2,s3,s4,s5,s6,s7⟩:=ha6 w8 hS8;subst hv';refine qm (i:=19) bK (qz (w8.setCell (J bb 1) (.slice pv' nl cv')) rfl rfl rfl (by go_simp) (fun h=>absurd rfl h) (qL bK ?_ _));show Exit.inBlock 5 _ Exit.normal _ _;have hK8:Kept Sv we w8:=(Kept.of_below ((zI _ we).drew)).trans hJ3 fun _ _ h=>h;have hTl:hd.length=T.length:=(by rw[HHe.out,←HKd.out.2,yT]);obtain⟨hOf,hBf⟩:=HPt.out w8 _ _ Sv Lb hK8 HNn.out.1 HNn.out.2 (fun b hb=>⟨by have:=(hqN.out b hb).1;have:=HBp.out.size;omega,fun e=>hqP (e ▸ hb)⟩) hJ1 (by rw[yN,yT];unfold reachBytes;omega) hJ2;have hre:=ref_eq hlt HNm.out.1;rw[←HKd.out.1,←HKd.out.2]at hre;rw[←hre]at hOf;have HOf:=q8 hOf;have HBf:=q8 (HBe.out.trans hBf);clear hOf hBf hre hJ1 hJ2 hJ3 hK8 hS8 hS6 ha6 s1 s2 s3 s4 s5 s6 s7;have hxr:=HXl.out
     go_wp2_with fail
     go_roundg (r.length - (k+1))
     case measure=>omega
     case rel=>
      exact⟨k+1,refA k xs,_,by omega,rfl,by go_num,HTu.out.step hlt,hbQ.out.turn hlt HNm.out.1 h6,by rw[←HXl.out];unfold refA ZV;rw[List.length_modify,qP],HOf.out,HBf.out⟩
end Go.Proofs.YtgjjhadbjmcnpaaGreatDoor
